/-
  WideLinear: the walk.
-/
import Derived.Test.YtglhfknlemaidaaWdKeeps
namespace Go.Proofs.Ytglhfknlemaidaa
open Go.RowKit
set_option linter.unusedVariables false
set_option linter.unusedSimpArgs false
attribute [local go_sem high] eqInt

theorem wrap64_ok (x : Int) : i64ok (wrap64 x) := by unfold i64ok wrap64; omega
theorem encOne {m : Int} (h : u64ok m) : I128.enc (1 * m) = (0, m) := by unfold u64ok at h; unfold I128.enc wrap64; rw [Prod.ext_iff]; constructor <;> (simp only []; omega)
set_option maxHeartbeats 3200000 in
theorem wideLinear_min {b m n : Int} (hb : i64ok b) (hm : u64ok m) (hn : u64ok n) (w : World) :
    Calls Try.prog 7 #[.int .i64 (-9223372036854775808), .int .i64 b, .int .u64 m, .int .u64 n] w fun e w' => e = .returned (.bool true) ∧ Below w.heap.size w w' := by
  have k1 := cTimes (a := -9223372036854775808) (b := 1) (by unfold i64ok; omega) (by unfold u64ok; omega)
  have k2 := cOf (a := -9223372036854775808) (by unfold i64ok; omega)
  have k3 := cTimes (a := -9223372036854775808) (b := 0) (by unfold i64ok; omega) (by unfold u64ok; omega)
  rw [show I128.enc (-9223372036854775808 * 1) = (-1, 9223372036854775808) from by decide +kernel] at k1
  rw [show I128.enc (-9223372036854775808) = (-1, 9223372036854775808) from by decide +kernel] at k2
  rw [show I128.enc (-9223372036854775808 * 0) = (0, 0) from by decide +kernel] at k3
  clear hb hm hn
  go_enter Try.func7, Try.ntmps7
  go_wp2_with fail
  refine (inclinelaw01_shown_any _).mono ?_
  rintro e w1 ⟨rfl, b1⟩
  go_wp2_with fail
  refine (k1 _).mono ?_
  rintro e wn ⟨rfl, bn⟩
  have b1 := below_next b1 bn
  clear bn
  go_wp2_with fail
  refine (k2 _).mono ?_
  rintro e wn ⟨rfl, bn⟩
  have b1 := below_next b1 bn
  clear bn
  go_wp2_with fail
  refine (k3 _).mono ?_
  rintro e wn ⟨rfl, bn⟩
  have b1 := below_next b1 bn
  clear bn
  go_wp2_with fail
  go_ret
  exact ⟨by simp, b1⟩

set_option maxHeartbeats 12800000 in
theorem wideLinear_more {a b m n : Int} (ha : i64ok a) (hb : i64ok b) (hm : u64ok m) (hn : u64ok n) (hz : a ≠ -9223372036854775808) (w : World) :
    Calls Try.prog 7 #[.int .i64 a, .int .i64 b, .int .u64 m, .int .u64 n] w fun e w' => e = .returned (.bool true) ∧ Below w.heap.size w w' := by
  obtain ⟨s, hs⟩ : ∃ s, wrap64 (a + b) = s := ⟨_, rfl⟩
  obtain ⟨t, ht⟩ : ∃ t, IntKind.u64.wrap (m + n) = t := ⟨_, rfl⟩
  have so : i64ok s := hs ▸ wrap64_ok _
  have tko : u64ok t := ht ▸ u64_range _
  obtain ⟨c, hc⟩ : ∃ c, wrap64 (-a) = c := ⟨_, rfl⟩
  have co : i64ok c := hc ▸ wrap64_ok _
  have ce : c = -a := by unfold i64ok at ha; unfold wrap64 at hc; omega
  have z1 : (a == -9223372036854775808) = false := by simpa using hz
  have k1 := cTimes co hm
  rw [show c * m = -(a * m) by rw [ce, Int.neg_mul]] at k1
  have k2 := cTimes ha hm
  have k3 := cNeg (a * m)
  have k4 := cTimes hb hm
  have k5 := cAdd (a * m) (b * m)
  have k6 := cTimes so hm
  have k7 := cTimes ha hn
  have k8 := cAdd (a * m) (a * n)
  have k9 := cTimes ha tko
  have k10 := cTimes ha (b := 1) (by unfold u64ok; omega)
  rw [Int.mul_one] at k10
  have k11 := cOf ha
  have k12 := cTimes ha (b := 0) (by unfold u64ok; omega)
  rw [Int.mul_zero, show I128.enc 0 = (0, 0) from by decide +kernel] at k12
  have k13 := cTimes (a := 1) (by unfold i64ok; omega) hm
  rw [encOne hm] at k13
  have d1 : decide (a ≤ s) = decide (0 ≤ b) → s * m = a * m + b * m := fun h => by
    rw [← Int.add_mul]; congr 1
    have h' : a ≤ s ↔ 0 ≤ b := by simpa using h
    unfold i64ok at ha hb; unfold wrap64 at hs; omega
  have d2 : decide (m ≤ t) = true → a * t = a * m + a * n := fun h => by
    rw [← Int.mul_add]; congr 1
    have h' : m ≤ t := by simpa using h
    unfold u64ok at hm hn; rw [IntKind.wrap_u64] at ht; omega
  clear ce co so tko hz ha hb hm hn
  obtain ⟨u1, e1⟩ : ∃ u, decide (a ≤ s) = u := ⟨_, rfl⟩
  obtain ⟨u2, e2⟩ : ∃ u, decide (0 ≤ b) = u := ⟨_, rfl⟩
  obtain ⟨u3, e3⟩ : ∃ u, decide (m ≤ t) = u := ⟨_, rfl⟩
  rw [e1, e2] at d1
  rw [e3] at d2
  rcases u1 with _ | _ <;> rcases u2 with _ | _ <;> rcases u3 with _ | _
  · rw [d1 rfl] at k6
    clear d1 d2
    go_enter Try.func7, Try.ntmps7
    go_wp2_with fail
    refine (inclinelaw01_shown_any _).mono ?_
    rintro e w1 ⟨rfl, b1⟩
    go_wp2_with fail
    refine (k1 _).mono ?_
    rintro e wn ⟨rfl, bn⟩
    have b1 := below_next b1 bn
    clear bn
    go_wp2_with fail
    refine (k2 _).mono ?_
    rintro e wn ⟨rfl, bn⟩
    have b1 := below_next b1 bn
    clear bn
    go_wp2_with fail
    refine (k3 _).mono ?_
    rintro e wn ⟨rfl, bn⟩
    have b1 := below_next b1 bn
    clear bn
    go_wp2_with fail
    refine (k2 _).mono ?_
    rintro e wn ⟨rfl, bn⟩
    have b1 := below_next b1 bn
    clear bn
    go_wp2_with fail
    refine (k4 _).mono ?_
    rintro e wn ⟨rfl, bn⟩
    have b1 := below_next b1 bn
    clear bn
    go_wp2_with fail
    refine (k5 _).mono ?_
    rintro e wn ⟨rfl, bn⟩
    have b1 := below_next b1 bn
    clear bn
    go_wp2_with fail
    refine (k6 _).mono ?_
    rintro e wn ⟨rfl, bn⟩
    have b1 := below_next b1 bn
    clear bn
    go_wp2_with fail
    refine (k10 _).mono ?_
    rintro e wn ⟨rfl, bn⟩
    have b1 := below_next b1 bn
    clear bn
    go_wp2_with fail
    refine (k11 _).mono ?_
    rintro e wn ⟨rfl, bn⟩
    have b1 := below_next b1 bn
    clear bn
    go_wp2_with fail
    refine (k12 _).mono ?_
    rintro e wn ⟨rfl, bn⟩
    have b1 := below_next b1 bn
    clear bn
    go_wp2_with fail
    refine (k13 _).mono ?_
    rintro e wn ⟨rfl, bn⟩
    have b1 := below_next b1 bn
    clear bn
    go_wp2_with fail
    go_ret
    exact ⟨by simp, b1⟩
  · rw [d1 rfl] at k6
    rw [d2 rfl] at k9
    clear d1 d2
    go_enter Try.func7, Try.ntmps7
    go_wp2_with fail
    refine (inclinelaw01_shown_any _).mono ?_
    rintro e w1 ⟨rfl, b1⟩
    go_wp2_with fail
    refine (k1 _).mono ?_
    rintro e wn ⟨rfl, bn⟩
    have b1 := below_next b1 bn
    clear bn
    go_wp2_with fail
    refine (k2 _).mono ?_
    rintro e wn ⟨rfl, bn⟩
    have b1 := below_next b1 bn
    clear bn
    go_wp2_with fail
    refine (k3 _).mono ?_
    rintro e wn ⟨rfl, bn⟩
    have b1 := below_next b1 bn
    clear bn
    go_wp2_with fail
    refine (k2 _).mono ?_
    rintro e wn ⟨rfl, bn⟩
    have b1 := below_next b1 bn
    clear bn
    go_wp2_with fail
    refine (k4 _).mono ?_
    rintro e wn ⟨rfl, bn⟩
    have b1 := below_next b1 bn
    clear bn
    go_wp2_with fail
    refine (k5 _).mono ?_
    rintro e wn ⟨rfl, bn⟩
    have b1 := below_next b1 bn
    clear bn
    go_wp2_with fail
    refine (k6 _).mono ?_
    rintro e wn ⟨rfl, bn⟩
    have b1 := below_next b1 bn
    clear bn
    go_wp2_with fail
    refine (k2 _).mono ?_
    rintro e wn ⟨rfl, bn⟩
    have b1 := below_next b1 bn
    clear bn
    go_wp2_with fail
    refine (k7 _).mono ?_
    rintro e wn ⟨rfl, bn⟩
    have b1 := below_next b1 bn
    clear bn
    go_wp2_with fail
    refine (k8 _).mono ?_
    rintro e wn ⟨rfl, bn⟩
    have b1 := below_next b1 bn
    clear bn
    go_wp2_with fail
    refine (k9 _).mono ?_
    rintro e wn ⟨rfl, bn⟩
    have b1 := below_next b1 bn
    clear bn
    go_wp2_with fail
    refine (k10 _).mono ?_
    rintro e wn ⟨rfl, bn⟩
    have b1 := below_next b1 bn
    clear bn
    go_wp2_with fail
    refine (k11 _).mono ?_
    rintro e wn ⟨rfl, bn⟩
    have b1 := below_next b1 bn
    clear bn
    go_wp2_with fail
    refine (k12 _).mono ?_
    rintro e wn ⟨rfl, bn⟩
    have b1 := below_next b1 bn
    clear bn
    go_wp2_with fail
    refine (k13 _).mono ?_
    rintro e wn ⟨rfl, bn⟩
    have b1 := below_next b1 bn
    clear bn
    go_wp2_with fail
    go_ret
    exact ⟨by simp, b1⟩
  · clear d1 d2
    go_enter Try.func7, Try.ntmps7
    go_wp2_with fail
    refine (inclinelaw01_shown_any _).mono ?_
    rintro e w1 ⟨rfl, b1⟩
    go_wp2_with fail
    refine (k1 _).mono ?_
    rintro e wn ⟨rfl, bn⟩
    have b1 := below_next b1 bn
    clear bn
    go_wp2_with fail
    refine (k2 _).mono ?_
    rintro e wn ⟨rfl, bn⟩
    have b1 := below_next b1 bn
    clear bn
    go_wp2_with fail
    refine (k3 _).mono ?_
    rintro e wn ⟨rfl, bn⟩
    have b1 := below_next b1 bn
    clear bn
    go_wp2_with fail
    refine (k10 _).mono ?_
    rintro e wn ⟨rfl, bn⟩
    have b1 := below_next b1 bn
    clear bn
    go_wp2_with fail
    refine (k11 _).mono ?_
    rintro e wn ⟨rfl, bn⟩
    have b1 := below_next b1 bn
    clear bn
    go_wp2_with fail
    refine (k12 _).mono ?_
    rintro e wn ⟨rfl, bn⟩
    have b1 := below_next b1 bn
    clear bn
    go_wp2_with fail
    refine (k13 _).mono ?_
    rintro e wn ⟨rfl, bn⟩
    have b1 := below_next b1 bn
    clear bn
    go_wp2_with fail
    go_ret
    exact ⟨by simp, b1⟩
  · rw [d2 rfl] at k9
    clear d1 d2
    go_enter Try.func7, Try.ntmps7
    go_wp2_with fail
    refine (inclinelaw01_shown_any _).mono ?_
    rintro e w1 ⟨rfl, b1⟩
    go_wp2_with fail
    refine (k1 _).mono ?_
    rintro e wn ⟨rfl, bn⟩
    have b1 := below_next b1 bn
    clear bn
    go_wp2_with fail
    refine (k2 _).mono ?_
    rintro e wn ⟨rfl, bn⟩
    have b1 := below_next b1 bn
    clear bn
    go_wp2_with fail
    refine (k3 _).mono ?_
    rintro e wn ⟨rfl, bn⟩
    have b1 := below_next b1 bn
    clear bn
    go_wp2_with fail
    refine (k2 _).mono ?_
    rintro e wn ⟨rfl, bn⟩
    have b1 := below_next b1 bn
    clear bn
    go_wp2_with fail
    refine (k7 _).mono ?_
    rintro e wn ⟨rfl, bn⟩
    have b1 := below_next b1 bn
    clear bn
    go_wp2_with fail
    refine (k8 _).mono ?_
    rintro e wn ⟨rfl, bn⟩
    have b1 := below_next b1 bn
    clear bn
    go_wp2_with fail
    refine (k9 _).mono ?_
    rintro e wn ⟨rfl, bn⟩
    have b1 := below_next b1 bn
    clear bn
    go_wp2_with fail
    refine (k10 _).mono ?_
    rintro e wn ⟨rfl, bn⟩
    have b1 := below_next b1 bn
    clear bn
    go_wp2_with fail
    refine (k11 _).mono ?_
    rintro e wn ⟨rfl, bn⟩
    have b1 := below_next b1 bn
    clear bn
    go_wp2_with fail
    refine (k12 _).mono ?_
    rintro e wn ⟨rfl, bn⟩
    have b1 := below_next b1 bn
    clear bn
    go_wp2_with fail
    refine (k13 _).mono ?_
    rintro e wn ⟨rfl, bn⟩
    have b1 := below_next b1 bn
    clear bn
    go_wp2_with fail
    go_ret
    exact ⟨by simp, b1⟩
  · clear d1 d2
    go_enter Try.func7, Try.ntmps7
    go_wp2_with fail
    refine (inclinelaw01_shown_any _).mono ?_
    rintro e w1 ⟨rfl, b1⟩
    go_wp2_with fail
    refine (k1 _).mono ?_
    rintro e wn ⟨rfl, bn⟩
    have b1 := below_next b1 bn
    clear bn
    go_wp2_with fail
    refine (k2 _).mono ?_
    rintro e wn ⟨rfl, bn⟩
    have b1 := below_next b1 bn
    clear bn
    go_wp2_with fail
    refine (k3 _).mono ?_
    rintro e wn ⟨rfl, bn⟩
    have b1 := below_next b1 bn
    clear bn
    go_wp2_with fail
    refine (k10 _).mono ?_
    rintro e wn ⟨rfl, bn⟩
    have b1 := below_next b1 bn
    clear bn
    go_wp2_with fail
    refine (k11 _).mono ?_
    rintro e wn ⟨rfl, bn⟩
    have b1 := below_next b1 bn
    clear bn
    go_wp2_with fail
    refine (k12 _).mono ?_
    rintro e wn ⟨rfl, bn⟩
    have b1 := below_next b1 bn
    clear bn
    go_wp2_with fail
    refine (k13 _).mono ?_
    rintro e wn ⟨rfl, bn⟩
    have b1 := below_next b1 bn
    clear bn
    go_wp2_with fail
    go_ret
    exact ⟨by simp, b1⟩
  · rw [d2 rfl] at k9
    clear d1 d2
    go_enter Try.func7, Try.ntmps7
    go_wp2_with fail
    refine (inclinelaw01_shown_any _).mono ?_
    rintro e w1 ⟨rfl, b1⟩
    go_wp2_with fail
    refine (k1 _).mono ?_
    rintro e wn ⟨rfl, bn⟩
    have b1 := below_next b1 bn
    clear bn
    go_wp2_with fail
    refine (k2 _).mono ?_
    rintro e wn ⟨rfl, bn⟩
    have b1 := below_next b1 bn
    clear bn
    go_wp2_with fail
    refine (k3 _).mono ?_
    rintro e wn ⟨rfl, bn⟩
    have b1 := below_next b1 bn
    clear bn
    go_wp2_with fail
    refine (k2 _).mono ?_
    rintro e wn ⟨rfl, bn⟩
    have b1 := below_next b1 bn
    clear bn
    go_wp2_with fail
    refine (k7 _).mono ?_
    rintro e wn ⟨rfl, bn⟩
    have b1 := below_next b1 bn
    clear bn
    go_wp2_with fail
    refine (k8 _).mono ?_
    rintro e wn ⟨rfl, bn⟩
    have b1 := below_next b1 bn
    clear bn
    go_wp2_with fail
    refine (k9 _).mono ?_
    rintro e wn ⟨rfl, bn⟩
    have b1 := below_next b1 bn
    clear bn
    go_wp2_with fail
    refine (k10 _).mono ?_
    rintro e wn ⟨rfl, bn⟩
    have b1 := below_next b1 bn
    clear bn
    go_wp2_with fail
    refine (k11 _).mono ?_
    rintro e wn ⟨rfl, bn⟩
    have b1 := below_next b1 bn
    clear bn
    go_wp2_with fail
    refine (k12 _).mono ?_
    rintro e wn ⟨rfl, bn⟩
    have b1 := below_next b1 bn
    clear bn
    go_wp2_with fail
    refine (k13 _).mono ?_
    rintro e wn ⟨rfl, bn⟩
    have b1 := below_next b1 bn
    clear bn
    go_wp2_with fail
    go_ret
    exact ⟨by simp, b1⟩
  · rw [d1 rfl] at k6
    clear d1 d2
    go_enter Try.func7, Try.ntmps7
    go_wp2_with fail
    refine (inclinelaw01_shown_any _).mono ?_
    rintro e w1 ⟨rfl, b1⟩
    go_wp2_with fail
    refine (k1 _).mono ?_
    rintro e wn ⟨rfl, bn⟩
    have b1 := below_next b1 bn
    clear bn
    go_wp2_with fail
    refine (k2 _).mono ?_
    rintro e wn ⟨rfl, bn⟩
    have b1 := below_next b1 bn
    clear bn
    go_wp2_with fail
    refine (k3 _).mono ?_
    rintro e wn ⟨rfl, bn⟩
    have b1 := below_next b1 bn
    clear bn
    go_wp2_with fail
    refine (k2 _).mono ?_
    rintro e wn ⟨rfl, bn⟩
    have b1 := below_next b1 bn
    clear bn
    go_wp2_with fail
    refine (k4 _).mono ?_
    rintro e wn ⟨rfl, bn⟩
    have b1 := below_next b1 bn
    clear bn
    go_wp2_with fail
    refine (k5 _).mono ?_
    rintro e wn ⟨rfl, bn⟩
    have b1 := below_next b1 bn
    clear bn
    go_wp2_with fail
    refine (k6 _).mono ?_
    rintro e wn ⟨rfl, bn⟩
    have b1 := below_next b1 bn
    clear bn
    go_wp2_with fail
    refine (k10 _).mono ?_
    rintro e wn ⟨rfl, bn⟩
    have b1 := below_next b1 bn
    clear bn
    go_wp2_with fail
    refine (k11 _).mono ?_
    rintro e wn ⟨rfl, bn⟩
    have b1 := below_next b1 bn
    clear bn
    go_wp2_with fail
    refine (k12 _).mono ?_
    rintro e wn ⟨rfl, bn⟩
    have b1 := below_next b1 bn
    clear bn
    go_wp2_with fail
    refine (k13 _).mono ?_
    rintro e wn ⟨rfl, bn⟩
    have b1 := below_next b1 bn
    clear bn
    go_wp2_with fail
    go_ret
    exact ⟨by simp, b1⟩
  · rw [d1 rfl] at k6
    rw [d2 rfl] at k9
    clear d1 d2
    go_enter Try.func7, Try.ntmps7
    go_wp2_with fail
    refine (inclinelaw01_shown_any _).mono ?_
    rintro e w1 ⟨rfl, b1⟩
    go_wp2_with fail
    refine (k1 _).mono ?_
    rintro e wn ⟨rfl, bn⟩
    have b1 := below_next b1 bn
    clear bn
    go_wp2_with fail
    refine (k2 _).mono ?_
    rintro e wn ⟨rfl, bn⟩
    have b1 := below_next b1 bn
    clear bn
    go_wp2_with fail
    refine (k3 _).mono ?_
    rintro e wn ⟨rfl, bn⟩
    have b1 := below_next b1 bn
    clear bn
    go_wp2_with fail
    refine (k2 _).mono ?_
    rintro e wn ⟨rfl, bn⟩
    have b1 := below_next b1 bn
    clear bn
    go_wp2_with fail
    refine (k4 _).mono ?_
    rintro e wn ⟨rfl, bn⟩
    have b1 := below_next b1 bn
    clear bn
    go_wp2_with fail
    refine (k5 _).mono ?_
    rintro e wn ⟨rfl, bn⟩
    have b1 := below_next b1 bn
    clear bn
    go_wp2_with fail
    refine (k6 _).mono ?_
    rintro e wn ⟨rfl, bn⟩
    have b1 := below_next b1 bn
    clear bn
    go_wp2_with fail
    refine (k2 _).mono ?_
    rintro e wn ⟨rfl, bn⟩
    have b1 := below_next b1 bn
    clear bn
    go_wp2_with fail
    refine (k7 _).mono ?_
    rintro e wn ⟨rfl, bn⟩
    have b1 := below_next b1 bn
    clear bn
    go_wp2_with fail
    refine (k8 _).mono ?_
    rintro e wn ⟨rfl, bn⟩
    have b1 := below_next b1 bn
    clear bn
    go_wp2_with fail
    refine (k9 _).mono ?_
    rintro e wn ⟨rfl, bn⟩
    have b1 := below_next b1 bn
    clear bn
    go_wp2_with fail
    refine (k10 _).mono ?_
    rintro e wn ⟨rfl, bn⟩
    have b1 := below_next b1 bn
    clear bn
    go_wp2_with fail
    refine (k11 _).mono ?_
    rintro e wn ⟨rfl, bn⟩
    have b1 := below_next b1 bn
    clear bn
    go_wp2_with fail
    refine (k12 _).mono ?_
    rintro e wn ⟨rfl, bn⟩
    have b1 := below_next b1 bn
    clear bn
    go_wp2_with fail
    refine (k13 _).mono ?_
    rintro e wn ⟨rfl, bn⟩
    have b1 := below_next b1 bn
    clear bn
    go_wp2_with fail
    go_ret
    exact ⟨by simp, b1⟩

theorem wideLinear_walk {a b m n : Int} (ha : i64ok a) (hb : i64ok b) (hm : u64ok m) (hn : u64ok n) (w : World) :
    Calls Try.prog 7 #[.int .i64 a, .int .i64 b, .int .u64 m, .int .u64 n] w fun e w' => e = .returned (.bool true) ∧ Below w.heap.size w w' := by
  by_cases hz : a = -9223372036854775808
  · subst hz; exact wideLinear_min hb hm hn w
  · exact wideLinear_more ha hb hm hn hz w
end Go.Proofs.Ytglhfknlemaidaa
