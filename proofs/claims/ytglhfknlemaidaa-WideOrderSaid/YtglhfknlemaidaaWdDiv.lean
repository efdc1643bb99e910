/-
  The program's Div comes to the quotient, rounded down, and the rest.
-/
import Derived.Test.YtglhfknlemaidaaWdWide
import Derived.Test.YtglhfknlemaidaaWdDiv64
import Derived.Test.YtglhfknlemaidaaWdDivPlain
namespace Go.Proofs.Ytglhfknlemaidaa
open Go.RowKit
set_option linter.unusedVariables false
set_option linter.unusedSimpArgs false

def wide_Div.f (a0_0 a0_1 a1 : Int) : Option (Int × Int × Int × Int) :=
  if i64ok a0_0 ∧ u64ok a0_1 ∧ u64ok a1 then
    if a1 = 0 then some (0, 0, 0, 10) else some ((I128.enc (I128.val a0_0 a0_1 / a1)).1, (I128.enc (I128.val a0_0 a0_1 / a1)).2, I128.val a0_0 a0_1 % a1, 0)
  else none

set_option maxHeartbeats 800000 in
theorem wide_div_zero (a0_0 a0_1 : Int) (w : World) :
    Calls Try.prog 23 #[.agg #[.int .i64 a0_0, .int .u64 a0_1], .int .u64 0] w fun e w' => e = .returned (.tuple #[.agg #[.int .i64 0, .int .u64 0], .int .u64 0, .int .i64 10]) ∧ Below w.heap.size w w' := by
  go_enter Try.func23, Try.ntmps23
  go_wp2
  refine bodyPost_ret (v := .tuple #[.agg #[.int .i64 0, .int .u64 0], .int .u64 0, .int .i64 10]) (by simp [results, Try.results23, go_sem]) rfl ⟨rfl, ?_⟩
  exact below_new (below_new (Below.refl _ _) _) _

/-- The quotient in two halves. -/
theorem div_halves (M d : Int) (h0 : 0 ≤ M) (h1 : M ≤ 170141183460469231731687303715884105728) (hd0 : 0 < d) (hd1 : d ≤ 18446744073709551615) :
    (wrap64 (M / 18446744073709551616 / d), (M / 18446744073709551616 % d * 18446744073709551616 + M % 18446744073709551616) / d) = I128.enc (M / d) ∧
    (M / 18446744073709551616 % d * 18446744073709551616 + M % 18446744073709551616) % d = M % d := by
  have e1 := Int.mul_ediv_add_emod (M / 18446744073709551616) d
  have r0 := Int.emod_nonneg (M / 18446744073709551616) (Int.ne_of_gt hd0)
  have r1 := Int.emod_lt_of_pos (M / 18446744073709551616) hd0
  generalize hh : M / 18446744073709551616 / d = h at *
  generalize M / 18446744073709551616 % d = r at *
  have e2 := Int.mul_ediv_add_emod (r * 18446744073709551616 + M % 18446744073709551616) d
  have s0 := Int.emod_nonneg (r * 18446744073709551616 + M % 18446744073709551616) (Int.ne_of_gt hd0)
  have s1 := Int.emod_lt_of_pos (r * 18446744073709551616 + M % 18446744073709551616) hd0
  have l0 : 0 ≤ (r * 18446744073709551616 + M % 18446744073709551616) / d := Int.ediv_nonneg (by omega) (by omega)
  have l1 : (r * 18446744073709551616 + M % 18446744073709551616) / d < 18446744073709551616 := Int.ediv_lt_of_lt_mul hd0 (by omega)
  generalize (r * 18446744073709551616 + M % 18446744073709551616) / d = l at *
  generalize (r * 18446744073709551616 + M % 18446744073709551616) % d = s at *
  have e3 : M = s + d * (h * 18446744073709551616 + l) := by rw [Int.mul_add, ← Int.mul_assoc]; omega
  have e4 : M / d = h * 18446744073709551616 + l := by rw [e3, Int.add_mul_ediv_left _ _ (Int.ne_of_gt hd0), Int.ediv_eq_zero_of_lt s0 s1]; omega
  have e5 : M % d = s := by rw [e3, Int.add_mul_emod_self_left, Int.emod_eq_of_lt s0 s1]
  rw [e4, e5]
  refine ⟨?_, rfl⟩
  unfold I128.enc
  refine Prod.ext ?_ ?_
  · show wrap64 h = wrap64 _; congr 1; omega
  · show l = _; omega
theorem half_hi (M : Int) (h0 : 0 ≤ M) (h1 : M ≤ 170141183460469231731687303715884105728) : IntKind.u64.wrap (I128.enc M).1 = M / 18446744073709551616 := by
  unfold I128.enc wrap64; rw [IntKind.wrap_u64]; simp only []; omega
theorem half_lo (M : Int) : (I128.enc M).2 = M % 18446744073709551616 := rfl

set_option maxHeartbeats 1600000 in
theorem wide_div_not (a0_0 a0_1 d : Int) (h1 : i64ok a0_0) (h2 : u64ok a0_1) (h3 : u64ok d) (hz : d ≠ 0) (hn : ¬ a0_0 < 0) (w : World) :
    Calls Try.prog 23 #[.agg #[.int .i64 a0_0, .int .u64 a0_1], .int .u64 d] w fun e w' => e = .returned (.tuple #[.agg #[.int .i64 (I128.enc (I128.val a0_0 a0_1 / d)).1, .int .u64 (I128.enc (I128.val a0_0 a0_1 / d)).2], .int .u64 (I128.val a0_0 a0_1 % d), .int .i64 0]) ∧ Below w.heap.size w w' := by
  have hd0 : 0 < d := by unfold u64ok at h3; omega
  have hd1 : d ≤ 18446744073709551615 := h3.2
  have M0 : 0 ≤ I128.val a0_0 a0_1 := by unfold I128.val; unfold u64ok at h2; omega
  have ov := I128.val_ok h1 h2
  have M1 : I128.val a0_0 a0_1 ≤ 170141183460469231731687303715884105728 := by unfold i128ok at ov; omega
  obtain ⟨E1, E2⟩ := div_halves _ d M0 M1 hd0 hd1
  have ehi : I128.val a0_0 a0_1 / 18446744073709551616 = a0_0 := by unfold I128.val; unfold u64ok at h2; omega
  have elo : I128.val a0_0 a0_1 % 18446744073709551616 = a0_1 := by unfold I128.val; unfold u64ok at h2; omega
  rw [ehi, elo] at E1 E2
  have ew : IntKind.u64.wrap a0_0 = a0_0 := by unfold i64ok at h1; rw [IntKind.wrap_u64]; omega
  generalize I128.val a0_0 a0_1 = v at *
  have hz0 : (d == 0) = false := by simpa using hz
  have hz1 : ¬ d = 0 := hz
  have r0 := Int.emod_nonneg a0_0 hz
  have r1 := Int.emod_lt_of_pos a0_0 hd0
  have q0 := Int.ediv_nonneg (show 0 ≤ a0_0 by omega) (Int.le_of_lt hd0)
  have q1 : a0_0 / d ≤ a0_0 := Int.ediv_le_self _ (by omega)
  have hhi : a0_0 ≤ 9223372036854775807 := h1.2
  have D := div64_any (a0_0 % d) a0_1 d ⟨r0, by omega⟩ h2 h3 r1
  have F1 : wrap64 (a0_0 / d) = (I128.enc (v / d)).1 := by rw [← E1]
  have F2 : (a0_0 % d * 18446744073709551616 + a0_1) / d = (I128.enc (v / d)).2 := by rw [← E1]
  rw [F2, E2] at D
  have w1_ : wrap64 (a0_0 / d) = a0_0 / d := by unfold wrap64; omega
  rw [w1_] at F1
  clear E1 E2 F2 ehi elo w1_
  rw [← F1]
  clear F1
  have R1 := Blk.new' (w := w.alloc (.cells #[.int .i64 a0_0, .int .u64 a0_1] 25)) (g := w.heap.size + 1) 25 #[.int .i64 0, .int .u64 0] (by simp)
  go_enter Try.func23, Try.ntmps23
  go_wp2_with fail
  go_quiet (fail)
  go_wp2_with fail
  refine (D _).mono ?_
  rintro e w2 ⟨rfl, b2⟩
  have A0 := (Blk.new w 25 #[.int .i64 a0_0, .int .u64 a0_1]).alloc (.cells #[.int .i64 0, .int .u64 0] 25) |>.alloc (.cells #[.int .i64 a0_0, .int .u64 a0_1] 25) |>.drewN nq |>.below b2
  have R2 := R1.alloc (.cells #[.int .i64 a0_0, .int .u64 a0_1] 25) |>.drewN nq |>.below b2
  obtain ⟨x0, x1, x2, x3⟩ := A0.cells2
  obtain ⟨y0, y1, y2, y3⟩ := R2.cells2
  have l1 := R2.lt
  have l0 := A0.lt
  have B2 := below_next (drewN_below (below_new (below_new (below_new (Below.refl w.heap.size w) (.cells #[.int .i64 a0_0, .int .u64 a0_1] 25)) (.cells #[.int .i64 0, .int .u64 0] 25)) (.cells #[.int .i64 a0_0, .int .u64 a0_1] 25)) nq) b2
  go_wp2_with fail
  refine bodyPost_ret (v := .tuple #[.agg #[.int .i64 (a0_0 / d), .int .u64 (I128.enc (v / d)).2], .int .u64 (v % d), .int .i64 0]) (results_ctt (p := 4) (u := 5) (v := 6) (ty := 25) rfl _ rfl rfl rfl ((R2.set2).alloc _) Try.underlying25 rfl (by kernel_rfl)) rfl ?_
  exact ⟨rfl, below_new (below_set2 B2 (by omega)) _⟩

set_option maxHeartbeats 1600000 in
theorem wide_div_under (a0_0 a0_1 d : Int) (h1 : i64ok a0_0) (h2 : u64ok a0_1) (h3 : u64ok d) (hz : d ≠ 0) (hn : a0_0 < 0) (w : World) :
    Calls Try.prog 23 #[.agg #[.int .i64 a0_0, .int .u64 a0_1], .int .u64 d] w fun e w' => e = .returned (.tuple #[.agg #[.int .i64 (I128.enc (I128.val a0_0 a0_1 / d)).1, .int .u64 (I128.enc (I128.val a0_0 a0_1 / d)).2], .int .u64 (I128.val a0_0 a0_1 % d), .int .i64 0]) ∧ Below w.heap.size w w' := by
  have hd0 : 0 < d := by unfold u64ok at h3; omega
  have hd1 : d ≤ 18446744073709551615 := h3.2
  have ov := I128.val_ok h1 h2
  have M0 : 0 ≤ -I128.val a0_0 a0_1 := by unfold I128.val; unfold u64ok at h2; omega
  have M1 : -I128.val a0_0 a0_1 ≤ 170141183460469231731687303715884105728 := by unfold i128ok at ov; omega
  obtain ⟨E1, E2⟩ := div_halves _ d M0 M1 hd0 hd1
  have ng := fun w => wide_Neg.calls a0_0 a0_1 _ _ w (show wide_Neg.f a0_0 a0_1 = some ((I128.enc (-I128.val a0_0 a0_1)).1, (I128.enc (-I128.val a0_0 a0_1)).2) by unfold wide_Neg.f; rw [if_pos ⟨h1, h2⟩])
  have mh := half_hi _ M0 M1
  have ml := half_lo (-I128.val a0_0 a0_1)
  generalize I128.val a0_0 a0_1 = v at *
  have mh0 : 0 ≤ -v / 18446744073709551616 := by omega
  have mh1 : -v / 18446744073709551616 ≤ 9223372036854775808 := by omega
  have ml0 : 0 ≤ -v % 18446744073709551616 := by omega
  have ml1 : -v % 18446744073709551616 ≤ 18446744073709551615 := by omega
  rw [ml] at ng
  have hQ : 0 ≤ -v / d := Int.ediv_nonneg M0 (Int.le_of_lt hd0)
  generalize (I128.enc (-v)).1 = mhi at *
  generalize -v / 18446744073709551616 = H at *
  generalize -v % 18446744073709551616 = Lo at *
  have hz0 : (d == 0) = false := by simpa using hz
  have hz1 : ¬ d = 0 := hz
  have r0 := Int.emod_nonneg H hz
  have r1 := Int.emod_lt_of_pos H hd0
  have q0 := Int.ediv_nonneg mh0 (Int.le_of_lt hd0)
  have q1 : H / d ≤ H := Int.ediv_le_self _ (by omega)
  have D := div64_any (H % d) Lo d ⟨r0, by omega⟩ ⟨ml0, ml1⟩ h3 r1
  have F1 : wrap64 (H / d) = (I128.enc (-v / d)).1 := by rw [← E1]
  have F2 : (H % d * 18446744073709551616 + Lo) / d = (I128.enc (-v / d)).2 := by rw [← E1]
  rw [F2, E2] at D
  have V := I128.val_enc (-v / d)
  have N1 := fun w => wide_Neg.calls (I128.enc (-v / d)).1 (I128.enc (-v / d)).2 _ _ w (show wide_Neg.f _ _ = some ((I128.enc (-(-v / d))).1, (I128.enc (-(-v / d))).2) by unfold wide_Neg.f; rw [if_pos ⟨I128.enc_i64 _, I128.enc_u64 _⟩, I128.enc_neg])
  have P1 := fun w => wide_Add.calls (I128.enc (-v / d)).1 (I128.enc (-v / d)).2 0 1 _ _ w (show wide_Add.f _ _ 0 1 = some ((I128.enc (-v / d + 1)).1, (I128.enc (-v / d + 1)).2) by
    unfold wide_Add.f; rw [if_pos ⟨I128.enc_i64 _, I128.enc_u64 _, by decide, by decide⟩, show I128.val 0 1 = 1 from rfl, I128.enc_add_left])
  have N2 := fun w => wide_Neg.calls (I128.enc (-v / d + 1)).1 (I128.enc (-v / d + 1)).2 _ _ w (show wide_Neg.f _ _ = some ((I128.enc (-(-v / d + 1))).1, (I128.enc (-(-v / d + 1))).2) by unfold wide_Neg.f; rw [if_pos ⟨I128.enc_i64 _, I128.enc_u64 _⟩, I128.enc_neg])
  rw [← F1] at N1 P1
  have hr0 := Int.emod_nonneg (-v) hz
  have hr1 := Int.emod_lt_of_pos (-v) hd0
  have nx := neg_exact v d hd0
  have np := neg_part v d hd0
  clear E1 E2 F2 ml V ov M0 M1
  obtain ⟨q, hq⟩ : ∃ q, (I128.enc (-v / d)).2 = q := ⟨_, rfl⟩
  rw [hq] at D N1 P1
  clear hq F1
  obtain ⟨R, hR⟩ : ∃ R, -v % d = R := ⟨_, rfl⟩
  rw [hR] at D hr0 hr1 nx np
  clear hR
  by_cases hz2 : R = 0
  · subst hz2
    obtain ⟨e1, e2⟩ := nx rfl
    rw [← e1] at N1
    rw [e2]
    clear nx np e1 e2 P1 N2
    have R1 := Blk.new' (w := w.alloc (.cells #[.int .i64 a0_0, .int .u64 a0_1] 25)) (g := w.heap.size + 1) 25 #[.int .i64 0, .int .u64 0] (by simp)
    go_enter Try.func23, Try.ntmps23
    go_wp2_with fail
    refine (ng _).mono ?_
    rintro e w1 ⟨rfl, b1⟩
    have A1 := ((Blk.new w 25 #[.int .i64 a0_0, .int .u64 a0_1]).alloc (.cells #[.int .i64 0, .int .u64 0] 25)).alloc (.cells #[.int .i64 a0_0, .int .u64 a0_1] 25) |>.below b1
    have R2 := (R1.alloc (.cells #[.int .i64 a0_0, .int .u64 a0_1] 25)).below b1
    have G1 := (Blk.new' (w := (w.alloc (.cells #[.int .i64 a0_0, .int .u64 a0_1] 25)).alloc (.cells #[.int .i64 0, .int .u64 0] 25)) (g := w.heap.size + 1 + 1) 25 #[.int .i64 a0_0, .int .u64 a0_1] (by simp)).below b1
    obtain ⟨x0, x1, x2, x3⟩ := A1.cells2
    obtain ⟨y0, y1, y2, y3⟩ := R2.cells2
    obtain ⟨z0, z1, z2, z3⟩ := G1.cells2
    have B1 := below_next (below_new (below_new (below_new (Below.refl w.heap.size w) (.cells #[.int .i64 a0_0, .int .u64 a0_1] 25)) (.cells #[.int .i64 0, .int .u64 0] 25)) (.cells #[.int .i64 a0_0, .int .u64 a0_1] 25)) b1
    go_wp2_with fail
    go_quiet (fail)
    go_wp2_with fail
    refine (D _).mono ?_
    rintro e w2 ⟨rfl, b2⟩
    have A2 := Blk.below (w := ((w1.setCell ⟨w.heap.size + 1 + 1, 0, none⟩ (.int .i64 mhi)).setCell ⟨w.heap.size + 1 + 1, 1, none⟩ (.int .u64 Lo)).drewN nq) (A1.far2 (by omega)) b2
    have R3 := Blk.below (w := ((w1.setCell ⟨w.heap.size + 1 + 1, 0, none⟩ (.int .i64 mhi)).setCell ⟨w.heap.size + 1 + 1, 1, none⟩ (.int .u64 Lo)).drewN nq) (R2.far2 (by omega)) b2
    obtain ⟨x0, x1, x2, x3⟩ := A2.cells2
    obtain ⟨y0, y1, y2, y3⟩ := R3.cells2
    have l1 := R3.lt
    have l0 := A2.lt
    have B2 := below_next (drewN_below (below_set2 (x := .int .i64 mhi) (y := .int .u64 Lo) B1 (show w.heap.size ≤ w.heap.size + 1 + 1 by omega)) nq) b2
    go_wp2_with fail
    refine (N1 _).mono ?_
    rintro e w3 ⟨rfl, b3⟩
    have R4 := (R3.alloc (.cells #[.int .i64 (wrap64 (H / d)), .int .u64 q] 25)).below b3
    obtain ⟨y0, y1, y2, y3⟩ := R4.cells2
    go_wp2_with fail
    refine bodyPost_ret (v := .tuple #[.agg #[.int .i64 (I128.enc (v / d)).1, .int .u64 (I128.enc (v / d)).2], .int .u64 0, .int .i64 0]) (results_ctt (p := 4) (u := 5) (v := 6) (ty := 25) rfl _ rfl rfl rfl R4.set2 Try.underlying25 rfl (by kernel_rfl)) rfl ?_
    exact ⟨rfl, below_set2 (below_next (below_new B2 _) b3) (by omega)⟩
  · obtain ⟨e1, e2⟩ := np (by omega)
    rw [← e1] at N2
    rw [e2]
    clear nx np e1 e2 N1
    have R1 := Blk.new' (w := w.alloc (.cells #[.int .i64 a0_0, .int .u64 a0_1] 25)) (g := w.heap.size + 1) 25 #[.int .i64 0, .int .u64 0] (by simp)
    go_enter Try.func23, Try.ntmps23
    go_wp2_with fail
    refine (ng _).mono ?_
    rintro e w1 ⟨rfl, b1⟩
    have A1 := ((Blk.new w 25 #[.int .i64 a0_0, .int .u64 a0_1]).alloc (.cells #[.int .i64 0, .int .u64 0] 25)).alloc (.cells #[.int .i64 a0_0, .int .u64 a0_1] 25) |>.below b1
    have R2 := (R1.alloc (.cells #[.int .i64 a0_0, .int .u64 a0_1] 25)).below b1
    have G1 := (Blk.new' (w := (w.alloc (.cells #[.int .i64 a0_0, .int .u64 a0_1] 25)).alloc (.cells #[.int .i64 0, .int .u64 0] 25)) (g := w.heap.size + 1 + 1) 25 #[.int .i64 a0_0, .int .u64 a0_1] (by simp)).below b1
    obtain ⟨x0, x1, x2, x3⟩ := A1.cells2
    obtain ⟨y0, y1, y2, y3⟩ := R2.cells2
    obtain ⟨z0, z1, z2, z3⟩ := G1.cells2
    have B1 := below_next (below_new (below_new (below_new (Below.refl w.heap.size w) (.cells #[.int .i64 a0_0, .int .u64 a0_1] 25)) (.cells #[.int .i64 0, .int .u64 0] 25)) (.cells #[.int .i64 a0_0, .int .u64 a0_1] 25)) b1
    go_wp2_with fail
    go_quiet (fail)
    go_wp2_with fail
    refine (D _).mono ?_
    rintro e w2 ⟨rfl, b2⟩
    have A2 := Blk.below (w := ((w1.setCell ⟨w.heap.size + 1 + 1, 0, none⟩ (.int .i64 mhi)).setCell ⟨w.heap.size + 1 + 1, 1, none⟩ (.int .u64 Lo)).drewN nq) (A1.far2 (by omega)) b2
    have R3 := Blk.below (w := ((w1.setCell ⟨w.heap.size + 1 + 1, 0, none⟩ (.int .i64 mhi)).setCell ⟨w.heap.size + 1 + 1, 1, none⟩ (.int .u64 Lo)).drewN nq) (R2.far2 (by omega)) b2
    obtain ⟨x0, x1, x2, x3⟩ := A2.cells2
    obtain ⟨y0, y1, y2, y3⟩ := R3.cells2
    have l1 := R3.lt
    have l0 := A2.lt
    have B2 := below_next (drewN_below (below_set2 (x := .int .i64 mhi) (y := .int .u64 Lo) B1 (show w.heap.size ≤ w.heap.size + 1 + 1 by omega)) nq) b2
    go_wp2_with fail
    refine (P1 _).mono ?_
    rintro e w3 ⟨rfl, b3⟩
    have R4 := (R3.alloc (.cells #[.int .i64 (wrap64 (H / d)), .int .u64 q] 25)).below b3
    have Q4 := (Blk.new w2 25 #[.int .i64 (wrap64 (H / d)), .int .u64 q]).below b3
    obtain ⟨y0, y1, y2, y3⟩ := R4.cells2
    obtain ⟨z0, z1, z2, z3⟩ := Q4.cells2
    go_wp2_with fail
    refine (N2 _).mono ?_
    rintro e w4 ⟨rfl, b4⟩
    have R5 := (R4.far2 (x := .int .i64 (I128.enc (-v / d + 1)).1) (y := .int .u64 (I128.enc (-v / d + 1)).2) (Nat.ne_of_lt l1)).below b4
    obtain ⟨y0, y1, y2, y3⟩ := R5.cells2
    go_wp2_with fail
    refine bodyPost_ret (v := .tuple #[.agg #[.int .i64 (I128.enc (v / d)).1, .int .u64 (I128.enc (v / d)).2], .int .u64 (d - R), .int .i64 0]) (results_ctt (p := 4) (u := 5) (v := 6) (ty := 25) rfl _ rfl rfl rfl R5.set2 Try.underlying25 rfl (by kernel_rfl)) rfl ?_
    exact ⟨rfl, below_set2 (below_next (below_set2 (below_next (below_new B2 _) b3) B2.size) b4) (by omega)⟩

theorem wide_Div.calls (a0_0 a0_1 a1 r1 r2 r3 r4 : Int) (w : World) (h : wide_Div.f a0_0 a0_1 a1 = some (r1, r2, r3, r4)) :
    Calls Try.prog 23 #[.agg #[.int .i64 a0_0, .int .u64 a0_1], .int .u64 a1] w fun e w' => e = .returned (.tuple #[.agg #[.int .i64 r1, .int .u64 r2], .int .u64 r3, .int .i64 r4]) ∧ Below w.heap.size w w' := by
  unfold wide_Div.f at h
  split at h
  case isFalse => exact absurd h (by simp)
  case isTrue hr =>
    obtain ⟨h1, h2, h3⟩ := hr
    split at h
    · rename_i hz
      subst hz
      simp at h; obtain ⟨rfl, rfl, rfl, rfl⟩ := h
      exact wide_div_zero a0_0 a0_1 w
    · rename_i hz
      simp at h; obtain ⟨rfl, rfl, rfl, rfl⟩ := h
      by_cases hn : a0_0 < 0
      · exact wide_div_under a0_0 a0_1 a1 h1 h2 h3 hz hn w
      · exact wide_div_not a0_0 a0_1 a1 h1 h2 h3 hz hn w

end Go.Proofs.Ytglhfknlemaidaa
