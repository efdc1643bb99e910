/-
  The law RatioNearBy, walked: the nearest float's neighbours lie on both sides.
-/
import Derived.Test.YtcnhgblpeonmgaaRtShown
namespace Go.Proofs.Ytcnhgblpeonmgaa
open Go.RowKit
set_option linter.unusedVariables false
set_option linter.unusedSimpArgs false
attribute [local go_sem high] binOp_lss64 binOp_gtr64 binOp_geq64 binOp_leq64 binOp_eql64 binOp_neq64 f64bits frombits

/-- Bounds of the nearest float. -/
theorem nr_bounds {num den : Nat} (hn0 : 0 < num) (hn : num < 18446744073709551616) (hd0 : 0 < den) (hd : den < 18446744073709551616) : 4314448443020935168 ≤ nr num den ∧ nr num den ≤ 4895412794951729152 := by
  have h := nr_near hn hd0 hd
  constructor
  · refine near_mono (near_exact 1 4314448443020935168 (by decide)) h (by decide) hd0 ?_
    have h1 := val_m65
    rw [Nat.mul_one, Nat.mul_one]
    have a1 : val 4314448443020935168 * den ≤ val 4314448443020935168 * 36893488147419103232 := Nat.mul_le_mul_left _ (by omega)
    have a2 : 1 * S ≤ num * S := Nat.mul_le_mul_right _ hn0
    omega
  · refine near_mono h (near_exact 1 4895412794951729152 (by decide)) hd0 (by decide) ?_
    rw [Nat.mul_one, Nat.mul_one, val_64]
    have a1 : num * S ≤ 18446744073709551616 * S := Nat.mul_le_mul_right _ (by omega)
    have a2 : 18446744073709551616 * S * 1 ≤ 18446744073709551616 * S * den := Nat.mul_le_mul_left _ hd0
    omega
/-- The float above lies above, the one below below. -/
theorem nr_above {num den : Nat} (hn0 : 0 < num) (hn : num < 18446744073709551616) (hd0 : 0 < den) (hd : den < 18446744073709551616) : cmpF (nr num den + 1) num den = 1 := by
  have h := nr_near hn hd0 hd
  have hb := nr_bounds hn0 hn hd0 hd
  have hl := INF_lit
  unfold cmpF
  rw [sv_small (by omega), ← Int.natCast_mul, ← Int.natCast_mul]
  refine cmpZ_gt (Int.ofNat_lt.2 ?_)
  have h1 := h.hi
  have h2 : den * val (nr num den) < den * val (nr num den + 1) := Nat.mul_lt_mul_of_pos_left (val_lt_succ _) hd0
  rw [Nat.mul_add] at h1
  rw [Nat.mul_comm (val (nr num den + 1))]
  omega
theorem nr_below {num den : Nat} (hn0 : 0 < num) (hn : num < 18446744073709551616) (hd0 : 0 < den) (hd : den < 18446744073709551616) : cmpF (nr num den - 1) num den = -1 := by
  have h := nr_near hn hd0 hd
  have hb := nr_bounds hn0 hn hd0 hd
  have hl := INF_lit
  unfold cmpF
  rw [sv_small (by omega), ← Int.natCast_mul, ← Int.natCast_mul]
  refine cmpZ_lt (Int.ofNat_lt.2 ?_)
  have h1 := h.lo (by omega)
  have h2 : den * val (nr num den - 1) < den * val (nr num den) := Nat.mul_lt_mul_of_pos_left (val_lt (by omega)) hd0
  rw [Nat.mul_add] at h1
  rw [Nat.mul_comm (val (nr num den - 1))]
  omega

theorem f_zero : fEq 0 0 := (fEq_self 0).2 (by decide)
theorem cmp_at (b num den : Nat) (hb : b < INF) (hn : num < 18446744073709551616) (hd0 : 0 < den) (hd : den < 18446744073709551616) (w : World) :
    Calls Try.prog 19 #[.float .f64 b, .int .u64 (num : Int), .int .u64 (den : Int)] w fun e w' => e = .returned (.tuple #[.int .i64 (cmpF b num den), .int .i64 0]) ∧ Below w.heap.size w w' := by
  have hl := INF_lit
  have := cmp_any b num den (by omega) hn hd w
  have hr := rg_small (Nat.le_of_lt hb)
  unfold cmpR cmpE at this
  have h0 : ¬ (den : Int) = 0 := by omega
  rw [hr, if_neg (by omega), if_neg h0, if_neg (by omega)] at this
  exact this

set_option maxHeartbeats 2000000 in
theorem ratioNearBy_walk (a : Int) (ha : u64ok a) (b : Int) (hb : u64ok b) (w : World) :
    Calls Try.prog 7 #[.int .u64 a, .int .u64 b] w fun e w' => e = .returned (.bool true) ∧ Below w.heap.size w w' := by
  unfold u64ok at ha hb
  obtain ⟨num, rfl⟩ := Int.eq_ofNat_of_zero_le ha.1
  obtain ⟨den, rfl⟩ := Int.eq_ofNat_of_zero_le hb.1
  have N := near_any num den (by omega) (by omega)
  have fz := f_zero
  by_cases h0 : den = 0
  · subst h0
    have e1 : nearF num 0 = 0 := if_pos rfl
    have e2 : nearE 0 = 20 := if_pos rfl
    rw [e1, e2] at N
    clear ha hb e1 e2
    rw [show ((0 : Nat) : Int) = 0 from rfl] at *
    go_enter Try.func7, Try.ntmps7
    go_wp2_with fail
    refine (shown_any _).mono ?_
    rintro e w1 ⟨rfl, b1⟩
    go_wp2_with fail
    refine (N _).mono ?_
    rintro e w2 ⟨rfl, b2⟩
    have H2 := Lib.hid (below_next b1 b2)
    clear b1 b2
    go_wp2_with fail
    simp [bodyPost, results, Try.results7, go_sem]
    exact H2.out
  have e1 : nearF num den = nr num den := if_neg h0
  have e2 : nearE den = 0 := if_neg h0
  rw [e1, e2] at N
  have z1 : ((den : Int) == 0) = false := by simp; omega
  by_cases hn0 : num = 0
  · subst hn0
    rw [nr_zero (by omega)] at N
    clear ha hb e1 e2
    rw [show ((0 : Nat) : Int) = 0 from rfl] at *
    go_enter Try.func7, Try.ntmps7
    go_wp2_with fail
    refine (shown_any _).mono ?_
    rintro e w1 ⟨rfl, b1⟩
    go_wp2_with fail
    refine (N _).mono ?_
    rintro e w2 ⟨rfl, b2⟩
    have H2 := Lib.hid (below_next b1 b2)
    clear b1 b2
    go_wp2_with fail
    simp [bodyPost, results, Try.results7, go_sem]
    exact H2.out
  have z2 : ((num : Int) == 0) = false := by simp; omega
  have hb' := nr_bounds (num := num) (den := den) (by omega) (by omega) (by omega) (by omega)
  have hl := INF_lit
  have C1 := cmp_at (nr num den + 1) num den (by omega) (by omega) (by omega) (by omega)
  have C2 := cmp_at (nr num den - 1) num den (by omega) (by omega) (by omega) (by omega)
  rw [nr_above (by omega) (by omega) (by omega) (by omega)] at C1
  rw [nr_below (by omega) (by omega) (by omega) (by omega)] at C2
  obtain ⟨r, hr⟩ : ∃ r, r = nr num den := ⟨_, rfl⟩
  rw [← hr] at N C1 C2 hb'
  obtain ⟨u, hu⟩ : ∃ u, u = r + 1 := ⟨_, rfl⟩
  obtain ⟨d, hd⟩ : ∃ d, d = r - 1 := ⟨_, rfl⟩
  rw [← hu] at C1
  rw [← hd] at C2
  have w1 : IntKind.u64.wrap ((r : Int) + 1) = (u : Int) := by rw [IntKind.wrap_u64]; omega
  have w2 : IntKind.u64.wrap ((r : Int) - 1) = (d : Int) := by rw [IntKind.wrap_u64]; omega
  have z3 : ((r : Int) == 0) = false := by simp; omega
  have hr1 : (1 : Int) ≤ (r : Int) := by omega
  clear ha hb e1 e2 hb' hl hr hu hd
  go_enter Try.func7, Try.ntmps7
  go_wp2_with fail
  refine (shown_any _).mono ?_
  rintro e w1 ⟨rfl, b1⟩
  go_wp2_with fail
  refine (N _).mono ?_
  rintro e w2 ⟨rfl, b2⟩
  have H2 := Lib.hid (below_next b1 b2)
  clear b1 b2
  go_wp2_with fail
  refine (C1 _).mono ?_
  rintro e w3 ⟨rfl, b3⟩
  have H3 := Lib.hid (below_next H2.out b3)
  clear b3 H2
  go_wp2_with fail
  refine (C2 _).mono ?_
  rintro e w4 ⟨rfl, b4⟩
  have H4 := Lib.hid (below_next H3.out b4)
  clear b4 H3
  go_wp2_with fail
  simp [bodyPost, results, Try.results7, go_sem]
  exact H4.out
end Go.Proofs.Ytcnhgblpeonmgaa
