/-
  The law RatioNear, walked.
-/
import Derived.Test.YtcnhgblpeonmgaaRtShown
namespace Go.Proofs.Ytcnhgblpeonmgaa
open Go.RowKit
set_option linter.unusedVariables false
set_option linter.unusedSimpArgs false
attribute [local go_sem high] binOp_lss64 binOp_gtr64 binOp_geq64 binOp_leq64 binOp_eql64 binOp_neq64 f64bits frombits

set_option maxHeartbeats 1000000 in
theorem ratioNear_walk (a : Int) (ha : u64ok a) (b : Int) (hb : u64ok b) (w : World) :
    Calls Try.prog 3 #[.int .u64 a, .int .u64 b] w fun e w' => e = .returned (.bool true) ∧ Below w.heap.size w w' := by
  unfold u64ok at ha hb
  obtain ⟨num, rfl⟩ := Int.eq_ofNat_of_zero_le ha.1
  obtain ⟨den, rfl⟩ := Int.eq_ofNat_of_zero_le hb.1
  have N := near_any num den (by omega) (by omega)
  have R := refNear_any num den (by omega) (by omega)
  generalize nearF num den = f at N R
  generalize nearE den = e0 at N R
  clear ha hb
  go_enter Try.func3, Try.ntmps3
  go_wp2_with fail
  refine (shown_any _).mono ?_
  rintro e w1 ⟨rfl, b1⟩
  go_wp2_with fail
  refine (N _).mono ?_
  rintro e w2 ⟨rfl, b2⟩
  have H2 := Lib.hid (below_next b1 b2)
  clear b1 b2
  go_wp2_with (go_at_call 13; refine (R _).mono ?_; rintro e w' ⟨rfl, rfl⟩)
  simp [bodyPost, results, Try.results3, go_sem]
  exact H2.out
end Go.Proofs.Ytcnhgblpeonmgaa
