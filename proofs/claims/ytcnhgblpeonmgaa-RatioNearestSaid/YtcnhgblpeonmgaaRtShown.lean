/-
  'shown', the small thing at the head of each statement about ratios, is true.
-/
import Derived.Test.YtcnhgblpeonmgaaRtAlong
import Derived.Test.YtcnhgblpeonmgaaEqS
namespace Go.Proofs.Ytcnhgblpeonmgaa
open Go.RowKit
set_option linter.unusedVariables false
set_option linter.unusedSimpArgs false
attribute [local go_sem high] binOp_lss64 binOp_gtr64 binOp_geq64 binOp_leq64 binOp_eql64 binOp_neq64 f64bits frombits

theorem eqSlope (d : Nat) (w : World) (x0 y0 x1 y1 : Int) :
    (Op.equalIn (d + 2) 36 (.agg #[.int .u64 x0, .int .u64 x1]) (.agg #[.int .u64 y0, .int .u64 y1])).run Try.prog w = .ok (x0 == y0 && (x1 == y1 && true)) w := by
  refine equal_struct Try.underlying36 (by kernel_rfl) ?_
  refine eqFields_step (by decide) (by go_simp; rfl) (by go_simp; rfl) (by go_simp) ?_
  exact eqFields_step (by decide) (by go_simp; rfl) (by go_simp; rfl) (by go_simp) eqFields_nil
attribute [local go_sem high] eqSlope

theorem ex_near (w : World) : Calls Try.prog 12 #[.int .u64 1, .int .u64 3] w fun e w' => e = .returned (.tuple #[.float .f64 4599676419421066581, .int .i64 0]) ∧ Below w.heap.size w w' := by
  have := near_any 1 3 (by decide) (by decide) w
  have e1 : nearF 1 3 = 4599676419421066581 := by unfold nearF; rw [if_neg (by decide), nr_third]
  have e2 : nearE 3 = 0 := by unfold nearE; rw [if_neg (by decide)]
  rw [e1, e2] at this; exact this
theorem ex_low (w : World) : Calls Try.prog 17 #[.int .u64 12, .int .u64 18] w fun e w' => e = .returned (.tuple #[.agg #[.int .u64 2, .int .u64 3], .int .i64 0]) ∧ Below w.heap.size w w' := by
  have := lowest_any 12 18 ⟨by decide, by decide⟩ ⟨by decide, by decide⟩ w
  have e : lowV 12 18 = .tuple #[.agg #[.int .u64 2, .int .u64 3], .int .i64 0] := by
    unfold lowV
    rw [show lowA 12 18 = 2 by decide +kernel, show lowB 12 18 = 3 by decide +kernel, show lowE 18 = 0 by decide +kernel]
  rw [e] at this; exact this
theorem ex_cmp (w : World) : Calls Try.prog 19 #[.float .f64 4591870180066957722, .int .u64 1, .int .u64 10] w fun e w' => e = .returned (.tuple #[.int .i64 1, .int .i64 0]) ∧ Below w.heap.size w w' := by
  have := cmp_any 4591870180066957722 1 10 (by decide) (by decide) (by decide) w
  have e1 : cmpR 4591870180066957722 (1 : Nat) (10 : Nat) = 1 := by decide +kernel
  have e2 : cmpE 4591870180066957722 (10 : Nat) = 0 := by decide +kernel
  rw [e1, e2] at this; exact this
theorem ex_clamp (w : World) : Calls Try.prog 21 #[.float .f64 4613712638259704627, .int .i64 0, .int .i64 5] w fun e w' => e = .returned (.int .i64 2) ∧ w = w' := by
  have := clamp_any 4613712638259704627 0 5 (by decide) (by decide) w
  rw [clamp_29] at this; exact this
theorem ex_along (w : World) : Calls Try.prog 23 #[.float .f64 4602678819172646912, .int .u64 3, .float .f64 4611686018427387904] w fun e w' => e = .returned (.float .f64 4615063718147915776) ∧ Below w.heap.size w w' := by
  refine (along_any 4602678819172646912 4611686018427387904 3 w).mono ?_
  rintro e w' ⟨r, rfl, h, b⟩
  have h := h.out.2
  rw [along_35] at h
  rcases h with h | h
  · cases h; exact ⟨rfl, b⟩
  · exact absurd h.1 (by simp)
theorem ex_eq : fEq 4615063718147915776 4615063718147915776 := (fEq_self _).2 (by decide)

set_option maxHeartbeats 4000000 in
theorem shown_any (w : World) : Calls Try.prog 11 #[] w fun e w' => e = .returned (.bool true) ∧ Below w.heap.size w w' := by
  have q := ex_eq
  go_enter Try.func11, Try.ntmps11
  go_wp2_with fail
  refine (ex_near _).mono ?_
  rintro e w1 ⟨rfl, b1⟩
  go_wp2_with fail
  refine (ex_low _).mono ?_
  rintro e w2 ⟨rfl, b2⟩
  have H2 := Lib.hid (below_next b1 b2)
  clear b1 b2
  go_wp2_with fail
  refine (ex_cmp _).mono ?_
  rintro e w3 ⟨rfl, b3⟩
  have G3 := Lib.hid ((Blk.new w2 36 #[.int .u64 2, .int .u64 3]).below b3)
  have H3 := Lib.hid (below_next (below_new H2.out _) b3)
  clear b3 H2
  go_wp2_with (go_at_call 21; refine (ex_clamp _).mono ?_; rintro e w' ⟨rfl, rfl⟩)
  refine (ex_along _).mono ?_
  rintro e w4 ⟨rfl, b4⟩
  have G4 := G3.out.below b4
  have H4 := Lib.hid (below_next H3.out b4)
  have c0 := G4.cell 0
  have c1 := G4.cell 1
  clear b4 H3 G3 G4
  go_wp2_with fail
  simp [bodyPost, results, Try.results11, go_sem]
  exact H4.out
end Go.Proofs.Ytcnhgblpeonmgaa
