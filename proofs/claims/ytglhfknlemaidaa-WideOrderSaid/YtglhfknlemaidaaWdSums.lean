/-
  wide.Add and wide.Sub come to the sum and the difference, modulo 2^128: by the machine's own carry and borrow.
-/
import Derived.Test.YtglhfknlemaidaaProg
import Derived.Test.YtglhfknlemaidaaWdPlain
import Derived.WalkKit
import Derived.WalkSpells
import Derived.KernelRfl
import Derived.RowKit3
import Derived.Below
import Derived.Shelf.Spec.BitsCarry
namespace Go.Proofs.Ytglhfknlemaidaa
open Go.RowKit
set_option linter.unusedVariables false
set_option linter.unusedSimpArgs false

theorem add64 (x y c : Int) (hx : 0 ≤ x) (hy : 0 ≤ y) (hc0 : 0 ≤ c) (hc : c ≤ 1) (w : World) : (callFunc 30 #[.int .u64 x, .int .u64 y, .int .u64 c]).run Try.prog w =
    .ok (.value (.tuple #[.int .u64 ((x + y + c) % 18446744073709551616), .int .u64 ((x + y + c) / 18446744073709551616)])) w := by
  rw [run_callFunc_extern Try.func30 (by kernel_rfl) (by kernel_rfl) (by kernel_rfl) (e := add64Entry) (by kernel_rfl), run_add64 x y c hx hy hc0 hc]
  rfl
theorem add64_0 (x y : Int) (hx : 0 ≤ x) (hy : 0 ≤ y) (w : World) : (callFunc 30 #[.int .u64 x, .int .u64 y, .int .u64 0]).run Try.prog w =
    .ok (.value (.tuple #[.int .u64 ((x + y) % 18446744073709551616), .int .u64 ((x + y) / 18446744073709551616)])) w := by
  simpa using add64 x y 0 hx hy (Int.le_refl 0) (by decide) w

theorem sub64 (x y b : Int) (hx : 0 ≤ x) (hy : 0 ≤ y) (hy' : y ≤ 18446744073709551615) (hb0 : 0 ≤ b) (hb : b ≤ 1) (w : World) : (callFunc 32 #[.int .u64 x, .int .u64 y, .int .u64 b]).run Try.prog w =
    .ok (.value (.tuple #[.int .u64 ((x - y - b) % 18446744073709551616), .int .u64 (bor x (y + b))])) w := by
  obtain ⟨x, rfl⟩ := Int.eq_ofNat_of_zero_le hx
  obtain ⟨y, rfl⟩ := Int.eq_ofNat_of_zero_le hy
  obtain ⟨b, rfl⟩ := Int.eq_ofNat_of_zero_le hb0
  have e1 : (((x + 18446744073709551616 - y - b) % 18446744073709551616 : Nat) : Int) = ((x : Int) - y - b) % 18446744073709551616 := by omega
  have e2 : ((if x < y + b then 1 else 0 : Nat) : Int) = bor (x : Int) (y + b) := by unfold bor; split <;> split <;> omega
  rw [← e1, ← e2, run_callFunc_extern Try.func32 (by kernel_rfl) (by kernel_rfl) (by kernel_rfl) (e := sub64Entry) (by kernel_rfl), run_sub64 x y b (by omega)]
  rfl
theorem sub64_0 (x y : Int) (hx : 0 ≤ x) (hy : 0 ≤ y) (hy' : y ≤ 18446744073709551615) (w : World) : (callFunc 32 #[.int .u64 x, .int .u64 y, .int .u64 0]).run Try.prog w =
    .ok (.value (.tuple #[.int .u64 ((x - y) % 18446744073709551616), .int .u64 (bor x y)])) w := by
  simpa using sub64 x y 0 hx hy hy' (Int.le_refl 0) (by decide) w

def wide_Add.f (a0_0 a0_1 a1_0 a1_1 : Int) : Option (Int × Int) := if i64ok a0_0 ∧ u64ok a0_1 ∧ i64ok a1_0 ∧ u64ok a1_1 then some (I128.enc (I128.val a0_0 a0_1 + I128.val a1_0 a1_1)) else none
def wide_Sub.f (a0_0 a0_1 a1_0 a1_1 : Int) : Option (Int × Int) := if i64ok a0_0 ∧ u64ok a0_1 ∧ i64ok a1_0 ∧ u64ok a1_1 then some (I128.enc (I128.val a0_0 a0_1 - I128.val a1_0 a1_1)) else none

set_option maxHeartbeats 800000 in
theorem wide_Add.calls (a0_0 a0_1 a1_0 a1_1 r1 r2 : Int) (w : World) (h : wide_Add.f a0_0 a0_1 a1_0 a1_1 = some (r1, r2)) :
    Calls Try.prog 15 #[.agg #[.int .i64 a0_0, .int .u64 a0_1], .agg #[.int .i64 a1_0, .int .u64 a1_1]] w fun e w' => e = .returned (.agg #[.int .i64 r1, .int .u64 r2]) ∧ Below w.heap.size w w' := by
  unfold wide_Add.f at h
  split at h
  case isFalse => exact absurd h (by simp)
  case isTrue hr =>
    obtain ⟨h1, h2, h3, h4⟩ := hr
    have e1 := I128.sum_fst a0_0 a0_1 a1_0 a1_1 h2 h4
    have e2 := I128.sum_snd a0_0 a0_1 a1_0 a1_1
    have h := Option.some.inj h
    rw [Prod.ext_iff, e1, e2] at h
    obtain ⟨rfl, rfl⟩ := h
    clear e1 e2
    unfold i64ok at h1 h3; unfold u64ok at h2 h4
    have k0 : 0 ≤ (a0_1 + a1_1) / 18446744073709551616 := by omega
    have k1 : (a0_1 + a1_1) / 18446744073709551616 ≤ 1 := by omega
    have ua := u64_range a0_0
    have ub := u64_range a1_0
    go_enter Try.func15, Try.ntmps15
    go_wp2_with (first | simp only [add64_0 a0_1 a1_1 h2.1 h4.1] | simp only [add64 (IntKind.u64.wrap a0_0) (IntKind.u64.wrap a1_0) _ ua.1 ub.1 k0 k1])
    simp [bodyPost, results, Try.results15, go_sem]
    exact ((((Below.refl _ _).alloc (Nat.le_refl _) _).alloc (by simp) _).alloc (by simp; omega) _)
set_option maxHeartbeats 800000 in
theorem wide_Sub.calls (a0_0 a0_1 a1_0 a1_1 r1 r2 : Int) (w : World) (h : wide_Sub.f a0_0 a0_1 a1_0 a1_1 = some (r1, r2)) :
    Calls Try.prog 17 #[.agg #[.int .i64 a0_0, .int .u64 a0_1], .agg #[.int .i64 a1_0, .int .u64 a1_1]] w fun e w' => e = .returned (.agg #[.int .i64 r1, .int .u64 r2]) ∧ Below w.heap.size w w' := by
  unfold wide_Sub.f at h
  split at h
  case isFalse => exact absurd h (by simp)
  case isTrue hr =>
    obtain ⟨h1, h2, h3, h4⟩ := hr
    have e1 := I128.dif_fst a0_0 a0_1 a1_0 a1_1 h2 h4
    have e2 := I128.dif_snd a0_0 a0_1 a1_0 a1_1
    have h := Option.some.inj h
    rw [Prod.ext_iff, e1, e2] at h
    obtain ⟨rfl, rfl⟩ := h
    clear e1 e2
    unfold i64ok at h1 h3; unfold u64ok at h2 h4
    have kb := bor_range a0_1 a1_1
    have ua := u64_range a0_0
    have ub := u64_range a1_0
    go_enter Try.func17, Try.ntmps17
    go_wp2_with (first | simp only [sub64_0 a0_1 a1_1 h2.1 h4.1 h4.2] | simp only [sub64 (IntKind.u64.wrap a0_0) (IntKind.u64.wrap a1_0) _ ua.1 ub.1 ub.2 kb.1 kb.2])
    simp [bodyPost, results, Try.results17, go_sem]
    exact ((((Below.refl _ _).alloc (Nat.le_refl _) _).alloc (by simp) _).alloc (by simp; omega) _)

end Go.Proofs.Ytglhfknlemaidaa
