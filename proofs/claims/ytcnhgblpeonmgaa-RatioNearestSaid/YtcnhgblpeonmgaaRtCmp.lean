/-
  ratio.Cmp comes to the order of a float and a fraction.
-/
import Derived.Test.YtcnhgblpeonmgaaRtClamp
import Derived.Test.YtcnhgblpeonmgaaRtLow
namespace Go.Proofs.Ytcnhgblpeonmgaa
open Go.RowKit
set_option linter.unusedVariables false
set_option linter.unusedSimpArgs false
attribute [local go_sem high] binOp_lss64 binOp_gtr64 binOp_geq64 binOp_leq64 binOp_eql64 binOp_neq64 f64bits frombits

/-- How two whole numbers stand. -/
def cmpZ (x y : Int) : Int := if x < y then -1 else if x = y then 0 else 1
theorem cmpZ_lt {x y : Int} (h : x < y) : cmpZ x y = -1 := if_pos h
theorem cmpZ_eq {x y : Int} (h : x = y) : cmpZ x y = 0 := by unfold cmpZ; rw [if_neg (by omega), if_pos h]
theorem cmpZ_gt {x y : Int} (h : y < x) : cmpZ x y = 1 := by unfold cmpZ; rw [if_neg (by omega), if_neg (by omega)]
theorem cmpZ_mul (x y c : Int) (hc : 0 < c) : cmpZ (x * c) (y * c) = cmpZ x y := by
  rcases Int.lt_trichotomy x y with h | h | h
  · rw [cmpZ_lt h, cmpZ_lt (Int.mul_lt_mul_of_pos_right h hc)]
  · rw [cmpZ_eq h, cmpZ_eq (by rw [h])]
  · rw [cmpZ_gt h, cmpZ_gt (Int.mul_lt_mul_of_pos_right h hc)]
/-- A float against a fraction. -/
def cmpF (b : Nat) (num den : Int) : Int := cmpZ (sv b * den) (num * (S : Int))
def cmpR (b : Nat) (num den : Int) : Int := if den = 0 ∨ INF ≤ rg b then 0 else cmpF b num den
def cmpE (b : Nat) (den : Int) : Int := if den = 0 then 20 else if INF ≤ rg b then 21 else 0

theorem compare_any (a b c d : Int) (ha : u64ok a) (hb : u64ok b) (hc : u64ok c) (hd : u64ok d) (w : World) :
    Calls Try.prog 37 #[.int .u64 a, .int .u64 b, .int .u64 c, .int .u64 d] w fun e w' => e = .returned (.int .i64 (cmpZ (a * 18446744073709551616 + b) (c * 18446744073709551616 + d))) ∧ w = w' := by
  unfold u64ok at ha hb hc hd
  have W : ∀ k, k = cmpZ (a * 18446744073709551616 + b) (c * 18446744073709551616 + d) → Hid (k = cmpZ (a * 18446744073709551616 + b) (c * 18446744073709551616 + d)) := fun k h => Lib.hid h
  rcases Int.lt_trichotomy a c with h | h | h
  · rw [cmpZ_lt (by omega)]
    clear W
    go_enter Try.func37, Try.ntmps37
    go_wp2
    simp [bodyPost, results, Try.results37, go_sem]
  · subst h
    rcases Int.lt_trichotomy b d with h | h | h
    · rw [cmpZ_lt (by omega)]
      clear W
      go_enter Try.func37, Try.ntmps37
      go_wp2
      simp [bodyPost, results, Try.results37, go_sem]
    · subst h
      rw [cmpZ_eq rfl]
      clear W
      go_enter Try.func37, Try.ntmps37
      go_wp2
      simp [bodyPost, results, Try.results37, go_sem]
    · rw [cmpZ_gt (by omega)]
      have g1 : ¬ b < d := by omega
      have g2 : (b == d) = false := by simp; omega
      clear W
      go_enter Try.func37, Try.ntmps37
      go_wp2
      simp [bodyPost, results, Try.results37, go_sem]
  · rw [cmpZ_gt (by omega)]
    have g1 : ¬ a < c := by omega
    have g2 : (a == c) = false := by simp; omega
    clear W
    go_enter Try.func37, Try.ntmps37
    go_wp2
    simp [bodyPost, results, Try.results37, go_sem]

theorem order_any (y : Bool) (w : World) : Calls Try.prog 32 #[.bool y] w fun e w' => e = .returned (.int .i64 (if y then 1 else 0)) ∧ w = w' := by
  cases y <;>
  · go_enter Try.func32, Try.ntmps32
    go_wp2
    simp [bodyPost, results, Try.results32, go_sem]
end Go.Proofs.Ytcnhgblpeonmgaa
