/-
  WideTells, WideParts: the walks.
-/
import Derived.Test.YtglhfknlemaidaaWdUni
namespace Go.Proofs.Ytglhfknlemaidaa
open Go.RowKit
set_option linter.unusedVariables false
set_option linter.unusedSimpArgs false
attribute [local go_sem high] eqInt

set_option maxHeartbeats 1600000 in
theorem wideTells_walk {a b : Int} (ha : i64ok a) (hb : u64ok b) (w : World) :
    Calls Try.prog 3 #[.int .i64 a, .int .u64 b] w fun e w' => e = .returned (.bool true) ∧ Below w.heap.size w w' := by
  have k1 := cOf ha
  have k2 := cRefOf ha
  have k3 := cTimes ha hb
  have k4 := cRefTimes ha hb
  clear ha hb
  go_enter Try.func3, Try.ntmps3
  go_wp2_with fail
  refine (inclinelaw01_shown_any _).mono ?_
  rintro e w1 ⟨rfl, b1⟩
  go_wp2_with (first | (go_at_call 11; refine (k1 _).mono ?_; rintro e w2 ⟨rfl, b2⟩; have b2 := below_next b1 b2) | (go_at_call 12; refine (k2 _).mono ?_; rintro e w3 ⟨rfl, b3⟩; have b3 := below_next b2 b3) | (go_at_call 13; refine (k3 _).mono ?_; rintro e w4 ⟨rfl, b4⟩; have b4 := below_next b3 b4) | (go_at_call 14; refine (k4 _).mono ?_; rintro e w5 ⟨rfl, b5⟩; have b5 := below_next b4 b5))
  go_ret
  refine ⟨by simp, b5⟩
end Go.Proofs.Ytglhfknlemaidaa
