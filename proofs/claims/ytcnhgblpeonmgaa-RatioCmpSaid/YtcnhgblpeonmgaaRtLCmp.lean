/-
  The law RatioCmp walked.
-/
import Derived.Test.YtcnhgblpeonmgaaRtRefCmp
import Derived.Test.YtcnhgblpeonmgaaRtShown
namespace Go.Proofs.Ytcnhgblpeonmgaa
open Go.RowKit
set_option linter.unusedVariables false
set_option linter.unusedSimpArgs false
attribute [local go_sem high] binOp_lss64 binOp_gtr64 binOp_geq64 binOp_leq64 binOp_eql64 binOp_neq64 f64bits frombits

set_option maxHeartbeats 2000000 in
theorem ratioCmp_walk (b : Int) (hb : u64ok b) (x : Int) (hx : u64ok x) (y : Int) (hy : u64ok y) (w : World) :
    Calls Try.prog 6 #[.int .u64 b, .int .u64 x, .int .u64 y] w fun e w' => e = .returned (.bool true) ∧ Below w.heap.size w w' := by
  unfold u64ok at hb hx hy
  obtain ⟨num, rfl⟩ := Int.eq_ofNat_of_zero_le hx.1
  obtain ⟨den, rfl⟩ := Int.eq_ofNat_of_zero_le hy.1
  have C1 := cmp_any b.toNat num den (by omega) (by omega) (by omega)
  have C2 := refCmp_any b.toNat num den (by omega) (by omega) (by omega)
  generalize cmpR b.toNat (num : Int) (den : Int) = r at C1 C2
  generalize cmpE b.toNat (den : Int) = q at C1 C2
  clear hb hx hy
  go_enter Try.func6, Try.ntmps6
  go_wp2_with fail
  refine (shown_any _).mono ?_
  rintro e w1 ⟨rfl, b1⟩
  go_wp2_with fail
  refine (C1 _).mono ?_
  rintro e w2 ⟨rfl, b2⟩
  have H2 := Lib.hid (below_next b1 b2)
  clear b1 b2
  go_wp2_with fail
  refine (C2 _).mono ?_
  rintro e w3 ⟨rfl, b3⟩
  have H3 := Lib.hid (below_next H2.out b3)
  clear b3 H2
  go_wp2_with fail
  simp [bodyPost, results, Try.results6, go_sem]
  exact H3.out
end Go.Proofs.Ytcnhgblpeonmgaa
