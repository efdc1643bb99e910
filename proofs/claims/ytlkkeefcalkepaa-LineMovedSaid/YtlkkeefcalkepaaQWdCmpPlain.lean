/-
  Which of two numbers of 128 bits is below the other, by their digits from the top.
-/
import Derived.Test.YtlkkeefcalkepaaQWdDigs
namespace Go.Proofs.Ytlkkeefcalkepaa
open Go.RowKit
set_option linter.unusedVariables false

def cmpI (x y : Int) : Int := if x < y then -1 else if x = y then 0 else 1
theorem cmpI_lt {x y : Int} (h : x < y) : cmpI x y = -1 := by unfold cmpI; rw [if_pos h]
theorem cmpI_eq {x y : Int} (h : x = y) : cmpI x y = 0 := by unfold cmpI; rw [if_neg (by omega), if_pos h]
theorem cmpI_gt {x y : Int} (h : y < x) : cmpI x y = 1 := by unfold cmpI; rw [if_neg (by omega), if_neg (by omega)]
theorem sign_dig {z : Int} (h : i128ok z) : (32768 ≤ dig z 7) ↔ z < 0 := by unfold i128ok at h; simp only [dig]; omega
/-- What stands from place k on. -/
def top (z : Int) (k : Nat) : Int := z % 340282366920938463463374607431768211456 / pw k
theorem top_eight (z : Int) : top z 8 = 0 := by simp only [top, pw]; omega
theorem top_zero (z : Int) : top z 0 = z % 340282366920938463463374607431768211456 := by simp only [top, pw]; omega
theorem top_succ (z : Int) (k : Nat) (hk : k < 8) : top z k = top z (k + 1) * 65536 + dig z k := by
  refine lt8 (P := fun k => top z k = top z (k + 1) * 65536 + dig z k) ?_ ?_ ?_ ?_ ?_ ?_ ?_ ?_ k hk <;> (simp only [top, pw, dig]; omega)
theorem top_lt {a b : Int} (k : Nat) (h : top a k < top b k) : a % 340282366920938463463374607431768211456 < b % 340282366920938463463374607431768211456 := by
  have hp := pw_pos k
  apply Classical.byContradiction; intro hn
  have : top b k ≤ top a k := Int.ediv_le_ediv hp (by omega)
  omega
theorem same_sign {a b : Int} (ha : i128ok a) (hb : i128ok b) (hs : a < 0 ↔ b < 0) : (a % 340282366920938463463374607431768211456 < b % 340282366920938463463374607431768211456 ↔ a < b) := by
  unfold i128ok at ha hb; omega
/-- The digits that decide. -/
theorem cmp_less {a b : Int} (ha : i128ok a) (hb : i128ok b) (hs : a < 0 ↔ b < 0) (k : Nat) (hk : k < 8) (he : top a (k + 1) = top b (k + 1)) (hd : dig a k < dig b k) : cmpI a b = -1 := by
  refine cmpI_lt ((same_sign ha hb hs).1 (top_lt k ?_))
  rw [top_succ a k hk, top_succ b k hk]; omega
theorem cmp_more {a b : Int} (ha : i128ok a) (hb : i128ok b) (hs : a < 0 ↔ b < 0) (k : Nat) (hk : k < 8) (he : top a (k + 1) = top b (k + 1)) (hd : dig b k < dig a k) : cmpI a b = 1 := by
  refine cmpI_gt ((same_sign hb ha hs.symm).1 (top_lt k ?_))
  rw [top_succ a k hk, top_succ b k hk]; omega
theorem cmp_same {a b : Int} (ha : i128ok a) (hb : i128ok b) (he : top a 0 = top b 0) : cmpI a b = 0 := by
  refine cmpI_eq ?_
  rw [top_zero, top_zero] at he
  unfold i128ok at ha hb; omega

end Go.Proofs.Ytlkkeefcalkepaa
