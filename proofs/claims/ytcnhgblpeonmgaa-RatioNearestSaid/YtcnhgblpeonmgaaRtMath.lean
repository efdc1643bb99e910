/-
  Go's library functions on floats, as the program calls them.
-/
import Derived.Test.YtcnhgblpeonmgaaRtConv
import Derived.Test.YtcnhgblpeonmgaaProg
import Derived.Test.YtcnhgblpeonmgaaHw
import Derived.Laws.BitsAllLaws
import Derived.WalkLawsBesides
import Derived.Laws.Externs
import Derived.Deep.CutBlock
namespace Go.Proofs.Ytcnhgblpeonmgaa
open Go.RowKit
set_option linter.unusedVariables false
set_option linter.unusedSimpArgs false

/-- How floats stand to each other; a NaN to none. -/
def fLt (a b : Nat) : Prop := Num64 a ∧ Num64 b ∧ sv a < sv b
def fLe (a b : Nat) : Prop := Num64 a ∧ Num64 b ∧ sv a ≤ sv b
def fEq (a b : Nat) : Prop := Num64 a ∧ Num64 b ∧ sv a = sv b
instance (a b : Nat) : Decidable (fLt a b) := by unfold fLt Num64; infer_instance
instance (a b : Nat) : Decidable (fLe a b) := by unfold fLe Num64; infer_instance
instance (a b : Nat) : Decidable (fEq a b) := by unfold fEq Num64; infer_instance
theorem binOp_lss64 (t : TypeId) (a b : Nat) : binOp .lss t (.float .f64 a) (.float .f64 b) = pure (.bool (decide (fLt a b))) := by
  rw [binOp_float_cmp_lss]
  show pure (Value.bool (Ieee.double.order a b == some .lt)) = _
  by_cases h : Num64 a ∧ Num64 b
  · rw [lss_num h.1 h.2]; simp [fLt, h.1, h.2]
  · rw [order_nan (by by_cases h1 : Num64 a; exact .inr (fun h2 => h ⟨h1, h2⟩); exact .inl h1), decide_eq_false (fun hh => h ⟨hh.1, hh.2.1⟩)]; rfl
theorem binOp_gtr64 (t : TypeId) (a b : Nat) : binOp .gtr t (.float .f64 a) (.float .f64 b) = pure (.bool (decide (fLt b a))) := by
  rw [binOp_float_cmp_gtr]
  show pure (Value.bool (Ieee.double.order a b == some .gt)) = _
  by_cases h : Num64 a ∧ Num64 b
  · rw [gtr_num h.1 h.2]; simp [fLt, h.1, h.2]
  · rw [order_nan (by by_cases h1 : Num64 a; exact .inr (fun h2 => h ⟨h1, h2⟩); exact .inl h1), decide_eq_false (fun hh => h ⟨hh.2.1, hh.1⟩)]; rfl
theorem binOp_geq64 (t : TypeId) (a b : Nat) : binOp .geq t (.float .f64 a) (.float .f64 b) = pure (.bool (decide (fLe b a))) := by
  rw [binOp_float_cmp_geq]
  show pure (Value.bool (Ieee.double.order a b == some .gt || Ieee.double.order a b == some .eq)) = _
  by_cases h : Num64 a ∧ Num64 b
  · rw [geq_num h.1 h.2]; simp [fLe, h.1, h.2]
  · rw [order_nan (by by_cases h1 : Num64 a; exact .inr (fun h2 => h ⟨h1, h2⟩); exact .inl h1), decide_eq_false (fun hh => h ⟨hh.2.1, hh.1⟩)]; rfl
theorem binOp_leq64 (t : TypeId) (a b : Nat) : binOp .leq t (.float .f64 a) (.float .f64 b) = pure (.bool (decide (fLe a b))) := by
  rw [binOp_float_cmp_leq]
  show pure (Value.bool (Ieee.double.order a b == some .lt || Ieee.double.order a b == some .eq)) = _
  by_cases h : Num64 a ∧ Num64 b
  · rw [leq_num h.1 h.2]; simp [fLe, h.1, h.2]
  · rw [order_nan (by by_cases h1 : Num64 a; exact .inr (fun h2 => h ⟨h1, h2⟩); exact .inl h1), decide_eq_false (fun hh => h ⟨hh.1, hh.2.1⟩)]; rfl
theorem binOp_eql64 (t : TypeId) (a b : Nat) : binOp .eql t (.float .f64 a) (.float .f64 b) = pure (.bool (decide (fEq a b))) := by
  rw [binOp_float_cmp_eql]
  show pure (Value.bool (Ieee.double.order a b == some .eq)) = _
  by_cases h : Num64 a ∧ Num64 b
  · rw [eql_num h.1 h.2]; simp [fEq, h.1, h.2]
  · rw [order_nan (by by_cases h1 : Num64 a; exact .inr (fun h2 => h ⟨h1, h2⟩); exact .inl h1), decide_eq_false (fun hh => h ⟨hh.1, hh.2.1⟩)]; rfl
theorem binOp_neq64 (t : TypeId) (a b : Nat) : binOp .neq t (.float .f64 a) (.float .f64 b) = pure (.bool (decide (¬ fEq a b))) := by
  rw [binOp_float_cmp_neq]
  show pure (Value.bool (!(Ieee.double.order a b == some .eq))) = _
  by_cases h : Num64 a ∧ Num64 b
  · rw [eql_num h.1 h.2]; simp [fEq, h.1, h.2]
  · have hn : ¬ fEq a b := fun hh => h ⟨hh.1, hh.2.1⟩
    rw [order_nan (by by_cases h1 : Num64 a; exact .inr (fun h2 => h ⟨h1, h2⟩); exact .inl h1)]; simp [hn]
attribute [irreducible] fLt fLe fEq

theorem f64bits (b : Nat) (w : World) : (callFunc 14 #[.float .f64 b]).run Try.prog w = .ok (.value (.int .u64 (b : Int))) w := by
  rw [run_callFunc_extern Try.func14 (by kernel_rfl) (by kernel_rfl) (by kernel_rfl) (e := Extern.MathFloatBits.float64bits) (by kernel_rfl)]
  rfl
theorem frombits (n : Int) (w : World) : (callFunc 15 #[.int .u64 n]).run Try.prog w = .ok (.value (.float .f64 n.toNat)) w := by
  rw [run_callFunc_extern Try.func15 (by kernel_rfl) (by kernel_rfl) (by kernel_rfl) (e := Extern.MathFloatBits.float64frombits) (by kernel_rfl)]
  rfl
attribute [local go_sem high] binOp_lss64 binOp_gtr64 binOp_geq64 binOp_leq64 binOp_eql64 binOp_neq64 f64bits frombits

theorem fEq_self (b : Nat) : fEq b b ↔ rg b ≤ INF := by unfold fEq Num64; exact ⟨fun h => h.1, fun h => ⟨h, h, rfl⟩⟩

theorem isNaN_any (b : Nat) (w : World) : Calls Try.prog 30 #[.float .f64 b] w fun e w' => e = .returned (.bool (decide (INF < rg b))) ∧ w = w' := by
  have e : decide (¬ fEq b b) = decide (INF < rg b) := by
    rw [decide_eq_decide, fEq_self]; omega
  go_enter Try.func30, Try.ntmps30
  go_wp2
  simp [bodyPost, results, Try.results30, go_sem, ← e]

theorem andNot_sign (b : Nat) (h : b < 18446744073709551616) : bits .andNot .u64 (b : Int) 9223372036854775808 = ((rg b : Nat) : Int) := by
  have := u64_andNot_nat b 9223372036854775808 h (by decide)
  rw [show ((9223372036854775808 : Nat) : Int) = 9223372036854775808 from rfl] at this
  rw [this]
  have e : 18446744073709551615 - 9223372036854775808 = 2 ^ 63 - 1 := by decide
  rw [e, Nat.and_two_pow_sub_one_eq_mod]; rfl
theorem andNot_exp (b : Nat) (h : b < 9223372036854775808) : bits .andNot .u64 (b : Int) 9218868437227405312 = ((b % 4503599627370496 : Nat) : Int) := by
  have := u64_andNot_nat b 9218868437227405312 (by omega) (by decide)
  rw [show ((9218868437227405312 : Nat) : Int) = 9218868437227405312 from rfl] at this
  rw [this]
  have e : 9223372036854775807 &&& (18446744073709551615 - 9218868437227405312) = 2 ^ 52 - 1 := by decide
  have e2 : b &&& 9223372036854775807 = b := by
    rw [show 9223372036854775807 = 2 ^ 63 - 1 by decide, Nat.and_two_pow_sub_one_eq_mod]; omega
  rw [← e2, Nat.and_assoc, e, Nat.and_two_pow_sub_one_eq_mod, e2]
theorem or_exp (low e : Nat) (hl : low < 4503599627370496) (he : e < 4096) : bits .or .u64 (low : Int) ((e * 4503599627370496 : Nat) : Int) = ((e * 4503599627370496 + low : Nat) : Int) := by
  rw [u64_or_nat low (e * 4503599627370496) (by omega) (by omega), Nat.or_comm]
  congr 1
  have h := Nat.two_pow_add_eq_or_of_lt (show low < 2 ^ 52 by omega) e
  rw [show 4503599627370496 = 2 ^ 52 by decide, Nat.mul_comm, h]
theorem and_2047 (b : Nat) (h : b < 9223372036854775808) : bits .and .u64 ((b / 4503599627370496 : Nat) : Int) 2047 = ((b / 4503599627370496 : Nat) : Int) := by
  have := u64_and_nat (b / 4503599627370496) 2047 (by omega) (by decide)
  rw [show ((2047 : Nat) : Int) = 2047 from rfl] at this
  rw [this, show 2047 = 2 ^ 11 - 1 by decide, Nat.and_two_pow_sub_one_eq_mod]
  congr 1; omega

theorem abs_any (b : Nat) (hb : b < 18446744073709551616) (w : World) : Calls Try.prog 40 #[.float .f64 b] w fun e w' => e = .returned (.float .f64 (rg b)) ∧ w = w' := by
  have e := andNot_sign b hb
  go_enter Try.func40, Try.ntmps40
  go_wp2
  simp [bodyPost, results, Try.results40, go_sem, e]
end Go.Proofs.Ytcnhgblpeonmgaa
