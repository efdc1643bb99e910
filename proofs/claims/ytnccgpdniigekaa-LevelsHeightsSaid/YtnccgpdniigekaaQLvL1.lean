/-
  The law of the heights.
-/
import Derived.Test.YtnccgpdniigekaaQG27
namespace Go.Proofs.Ytnccgpdniigekaa
open Go.RowKit
set_option linter.unusedVariables false
set_option linter.unusedSimpArgs false
attribute [local go_sem high] run_store_float

theorem mhI_up {n eps : Int} (h1 : 1 ≤ n) (h2 : 2 ≤ eps) (h3 : eps < 64) : mhI n eps ≤ mhI (n + 1) eps ∧ mhI n (eps + 1) ≤ mhI n eps := by
  obtain ⟨n, rfl⟩ := Int.eq_ofNat_of_zero_le (show 0 ≤ n by omega)
  obtain ⟨e, rfl⟩ := Int.eq_ofNat_of_zero_le (show 0 ≤ eps by omega)
  have a := maxH_mono (eps := e) (by omega) n (n + 1) (by omega)
  have b := maxH_anti (e := e) (e' := e + 1) (by omega) (by omega) n
  have e1 := mhI_nat (n := n) (eps := e) (by omega) (by omega) (by omega)
  have e2 := mhI_nat (n := n + 1) (eps := e) (by omega) (by omega) (by omega)
  have e3 := mhI_nat (n := n) (eps := e + 1) (by omega) (by omega) (by omega)
  rw [show ((n : Int) + 1) = ((n + 1 : Nat) : Int) from by omega, show ((e : Int) + 1) = ((e + 1 : Nat) : Int) from by omega, e1, e2, e3]
  exact ⟨by omega, by omega⟩
set_option maxHeartbeats 4000000 in
set_option maxRecDepth 10000 in
theorem heights_any (n : Int) (hn : i64ok n) (eps : Int) (he : i64ok eps) (w : World) :
    Calls Try.prog 5 #[.int .i64 n, .int .i64 eps] w fun e w' => e = .returned (.bool true) ∧ Below w.heap.size w w' := by
  unfold i64ok at hn he
  have SH := shown8 w
  have M1 := fun w' => maxHeight_any n eps (by omega) w'
  have R1 := fun w' => refMaxHeight_any n eps (by omega) w'
  by_cases hb : eps < 2 ∨ 64 ≤ eps ∨ n < 1 ∨ n = 9223372036854775807
  · generalize mhI n eps = h at *
    have HB := Lib.hid hb
    clear hb
    have b1 : (h == h) = true := by simp
    have b2 : (h != h) = false := by simp
    go_enter Try.func5, Try.ntmps5
    go_wp2_with fail
    refine SH.mono ?_
    rintro e w1 ⟨rfl, b1⟩
    have B1 := Lib.hid b1
    clear b1
    go_wp2_with fail
    refine (M1 _).mono ?_
    rintro e w2 ⟨rfl, rfl⟩
    go_wp2_with fail
    refine (R1 _).mono ?_
    rintro e w2 ⟨rfl, rfl⟩
    by_cases h1 : eps < 2
    · go_wp2_with fail
      go_ret
      exact ⟨rfl, B1.out⟩
    · by_cases h2 : 64 ≤ eps
      · go_wp2_with fail
        go_ret
        exact ⟨rfl, B1.out⟩
      · by_cases h3 : n < 1
        · go_wp2_with fail
          go_ret
          exact ⟨rfl, B1.out⟩
        · have h4 : (n == 9223372036854775807) = true := by have := HB.out; rw [beq_iff_eq]; omega
          go_wp2_with fail
          go_ret
          exact ⟨rfl, B1.out⟩
  · have U := mhI_up (n := n) (eps := eps) (by omega) (by omega) (by omega)
    have v1 : wrap64 (n + 1) = n + 1 := by unfold wrap64; omega
    have v2 : wrap64 (eps + 1) = eps + 1 := by unfold wrap64; omega
    have M2 := fun w' => maxHeight_any (n + 1) eps (by omega) w'
    have M3 := fun w' => maxHeight_any n (eps + 1) (by omega) w'
    have h1 : ¬ eps < 2 := by omega
    have h2 : ¬ 64 ≤ eps := by omega
    have h3 : ¬ n < 1 := by omega
    have h4 : (n == 9223372036854775807) = false := by rw [beq_eq_false_iff_ne]; omega
    generalize mhI n eps = h at *
    generalize mhI (n + 1) eps = h' at *
    generalize mhI n (eps + 1) = h'' at *
    have u1 : h ≤ h' := U.1
    have u2 : h'' ≤ h := U.2
    have b2 : (h != h) = false := by simp
    clear hb U
    go_enter Try.func5, Try.ntmps5
    go_wp2_with fail
    refine SH.mono ?_
    rintro e w1 ⟨rfl, b1⟩
    have B1 := Lib.hid b1
    clear b1
    go_wp2_with fail
    refine (M1 _).mono ?_
    rintro e w2 ⟨rfl, rfl⟩
    go_wp2_with fail
    refine (R1 _).mono ?_
    rintro e w2 ⟨rfl, rfl⟩
    go_wp2_with fail
    refine (M2 _).mono ?_
    rintro e w2 ⟨rfl, rfl⟩
    go_wp2_with fail
    refine (M3 _).mono ?_
    rintro e w2 ⟨rfl, rfl⟩
    go_wp2_with fail
    go_ret
    exact ⟨rfl, B1.out⟩
end Go.Proofs.Ytnccgpdniigekaa
