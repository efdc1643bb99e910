/-
  WideParts: the walk.
-/
import Derived.Test.YtglhfknlemaidaaWdKeeps
namespace Go.Proofs.Ytglhfknlemaidaa
open Go.RowKit
set_option linter.unusedVariables false
set_option linter.unusedSimpArgs false
attribute [local go_sem high] eqInt

set_option maxHeartbeats 6400000 in
set_option maxRecDepth 100000 in
theorem wideParts_walk0 {x : Int} (hx : i128ok x) (w : World) :
    Calls Try.prog 5 #[.agg #[.int .i64 (I128.enc (x)).1, .int .u64 (I128.enc (x)).2], .int .u64 0] w fun e w' => e = .returned (.bool true) ∧ Below w.heap.size w w' := by
  have k1 := cDiv0 x
  have k2 := cRefDiv0 x
  clear hx
  go_enter Try.func5, Try.ntmps5
  go_wp2_with fail
  have K0 : Keeps w [(w.heap.size, #[.int .i64 (I128.enc (x)).1, .int .u64 (I128.enc (x)).2])] (w.alloc (.cells #[.int .i64 (I128.enc (x)).1, .int .u64 (I128.enc (x)).2] 25)) := (Keeps.nil w).box rfl #[.int .i64 (I128.enc (x)).1, .int .u64 (I128.enc (x)).2]
  refine (inclinelaw01_shown_any _).mono ?_
  rintro e w1 ⟨rfl, b1⟩
  have K1 := K0.next b1
  clear b1 K0
  go_wp2_with (first | (refine load_blk rfl 25 (.tmp 2) rfl _ rfl (Keeps.at0 K1) Try.underlying25 rfl (by kernel_rfl) ?_))
  refine (k1 _).mono ?_
  rintro e w2 ⟨rfl, b2⟩
  have K2 := (K1.next b2).box rfl #[.int .i64 0, .int .u64 0]
  clear K1 b2
  go_wp2_with (first | (refine load_blk rfl 25 (.tmp 2) rfl _ rfl (Keeps.at1 K2) Try.underlying25 rfl (by kernel_rfl) ?_) | (refine load_blk rfl 25 (.tmp 6) rfl _ rfl (Keeps.at0 K2) Try.underlying25 rfl (by kernel_rfl) ?_))
  refine (k2 _).mono ?_
  rintro e w3 ⟨rfl, b3⟩
  have K3 := (K2.next b3).box rfl #[.int .i64 0, .int .u64 0]
  clear K2 b3
  go_wp2_with (first | (refine load_blk rfl 25 (.tmp 2) rfl _ rfl (Keeps.at2 K3) Try.underlying25 rfl (by kernel_rfl) ?_) | (refine load_blk rfl 25 (.tmp 6) rfl _ rfl (Keeps.at1 K3) Try.underlying25 rfl (by kernel_rfl) ?_) | (refine load_blk rfl 25 (.tmp 9) rfl _ rfl (Keeps.at0 K3) Try.underlying25 rfl (by kernel_rfl) ?_))
  go_ret
  exact ⟨by simp, K3.bel⟩

set_option maxHeartbeats 6400000 in
set_option maxRecDepth 100000 in
theorem wideParts_walk1 {x d : Int} (hx : i128ok x) (hd : u64ok d) (hz : d ≠ 0) (w : World) :
    Calls Try.prog 5 #[.agg #[.int .i64 (I128.enc (x)).1, .int .u64 (I128.enc (x)).2], .int .u64 d] w fun e w' => e = .returned (.bool true) ∧ Below w.heap.size w w' := by
  have k1 := cDiv hx hd hz
  have k2 := cRefDiv hx hd hz
  clear hx hd hz
  generalize x / d = q at *
  generalize x % d = r at *
  go_enter Try.func5, Try.ntmps5
  go_wp2_with fail
  have K0 : Keeps w [(w.heap.size, #[.int .i64 (I128.enc (x)).1, .int .u64 (I128.enc (x)).2])] (w.alloc (.cells #[.int .i64 (I128.enc (x)).1, .int .u64 (I128.enc (x)).2] 25)) := (Keeps.nil w).box rfl #[.int .i64 (I128.enc (x)).1, .int .u64 (I128.enc (x)).2]
  refine (inclinelaw01_shown_any _).mono ?_
  rintro e w1 ⟨rfl, b1⟩
  have K1 := K0.next b1
  clear b1 K0
  go_wp2_with (first | (refine load_blk rfl 25 (.tmp 2) rfl _ rfl (Keeps.at0 K1) Try.underlying25 rfl (by kernel_rfl) ?_))
  refine (k1 _).mono ?_
  rintro e w2 ⟨rfl, b2⟩
  have K2 := (K1.next b2).box rfl #[.int .i64 (I128.enc (q)).1, .int .u64 (I128.enc (q)).2]
  clear K1 b2
  go_wp2_with (first | (refine load_blk rfl 25 (.tmp 2) rfl _ rfl (Keeps.at1 K2) Try.underlying25 rfl (by kernel_rfl) ?_) | (refine load_blk rfl 25 (.tmp 6) rfl _ rfl (Keeps.at0 K2) Try.underlying25 rfl (by kernel_rfl) ?_))
  refine (k2 _).mono ?_
  rintro e w3 ⟨rfl, b3⟩
  have K3 := (K2.next b3).box rfl #[.int .i64 (I128.enc (q)).1, .int .u64 (I128.enc (q)).2]
  clear K2 b3
  go_wp2_with (first | (refine load_blk rfl 25 (.tmp 2) rfl _ rfl (Keeps.at2 K3) Try.underlying25 rfl (by kernel_rfl) ?_) | (refine load_blk rfl 25 (.tmp 6) rfl _ rfl (Keeps.at1 K3) Try.underlying25 rfl (by kernel_rfl) ?_) | (refine load_blk rfl 25 (.tmp 9) rfl _ rfl (Keeps.at0 K3) Try.underlying25 rfl (by kernel_rfl) ?_))
  go_ret
  exact ⟨by simp, K3.bel⟩

theorem wideParts_walk {x d : Int} (hx : i128ok x) (hd : u64ok d) (w : World) :
    Calls Try.prog 5 #[.agg #[.int .i64 (I128.enc (x)).1, .int .u64 (I128.enc (x)).2], .int .u64 d] w fun e w' => e = .returned (.bool true) ∧ Below w.heap.size w w' := by
  by_cases hz : d = 0
  · subst hz; exact wideParts_walk0 hx w
  · exact wideParts_walk1 hx hd hz w
end Go.Proofs.Ytglhfknlemaidaa
