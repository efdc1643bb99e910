/-
  The reference's fractions: whole, Below, lowest.
-/
import Derived.Test.YtnccgpdniigekaaQHuFns
namespace Go.Proofs.Ytnccgpdniigekaa
open Go.RowKit
set_option linter.unusedVariables false
set_option linter.unusedSimpArgs false

theorem whole_plain (p11 p10 p01 p00 P : Int) (hP : P = p11 * 18446744073709551616 + (p10 + p01) * 4294967296 + p00) (h00 : 0 ≤ p00) (h10 : 0 ≤ p10) (h01 : 0 ≤ p01) (h11 : 0 ≤ p11)
    (k00 : p00 ≤ 18446744065119617025) (k10 : p10 ≤ 18446744065119617025) (k01 : p01 ≤ 18446744065119617025) (k11 : p11 ≤ 18446744065119617025) :
    p11 + (p10 + p00 / 4294967296) / 4294967296 + (p01 + (p10 + p00 / 4294967296) % 4294967296) / 4294967296 = P / 18446744073709551616 ∧
    IntKind.u64.wrap ((p01 + (p10 + p00 / 4294967296) % 4294967296) * 4294967296) + p00 % 4294967296 = P % 18446744073709551616 := by
  subst hP
  rw [IntKind.wrap_u64]
  omega
theorem whole_prod (a b : Int) : a * b = (a / 4294967296) * (b / 4294967296) * 18446744073709551616 + ((a / 4294967296) * (b % 4294967296) + (a % 4294967296) * (b / 4294967296)) * 4294967296 + (a % 4294967296) * (b % 4294967296) := by
  have ha : a = (a / 4294967296) * 4294967296 + a % 4294967296 := by omega
  have hb : b = (b / 4294967296) * 4294967296 + b % 4294967296 := by omega
  generalize a / 4294967296 = a1 at *; generalize a % 4294967296 = a0 at *; generalize b / 4294967296 = b1 at *; generalize b % 4294967296 = b0 at *
  subst ha hb
  grind
theorem half_prod {x y : Int} (h0 : 0 ≤ x) (h1 : x ≤ 4294967295) (h2 : 0 ≤ y) (h3 : y ≤ 4294967295) : 0 ≤ x * y ∧ x * y ≤ 18446744065119617025 :=
  ⟨Int.mul_nonneg h0 h2, by have := Int.mul_le_mul h1 h3 h2 (by omega : (0 : Int) ≤ 4294967295); omega⟩
set_option maxHeartbeats 2000000 in
theorem ref_whole (a b : Int) (ha : u64ok a) (hb : u64ok b) (w : World) :
    Calls Try.prog 101 #[.int .u64 a, .int .u64 b] w fun e w' => e = .returned (.tuple #[.int .u64 (a * b / 18446744073709551616), .int .u64 (a * b % 18446744073709551616)]) ∧ w = w' := by
  unfold u64ok at ha hb
  have W0 := whole_prod a b
  rw [← Int.tmod_eq_emod_of_nonneg ha.1, ← Int.tmod_eq_emod_of_nonneg hb.1, ← Int.tdiv_eq_ediv_of_nonneg (b := 4294967296) ha.1, ← Int.tdiv_eq_ediv_of_nonneg (b := 4294967296) hb.1] at W0
  obtain ⟨a0, ea0, ha0, ka0⟩ : ∃ x, a.tmod 4294967296 = x ∧ 0 ≤ x ∧ x ≤ 4294967295 := ⟨_, rfl, by rw [Int.tmod_eq_emod_of_nonneg ha.1]; omega, by rw [Int.tmod_eq_emod_of_nonneg ha.1]; omega⟩
  obtain ⟨b0, eb0, hb0, kb0⟩ : ∃ x, b.tmod 4294967296 = x ∧ 0 ≤ x ∧ x ≤ 4294967295 := ⟨_, rfl, by rw [Int.tmod_eq_emod_of_nonneg hb.1]; omega, by rw [Int.tmod_eq_emod_of_nonneg hb.1]; omega⟩
  obtain ⟨a1, ea1, ha1, ka1⟩ : ∃ x, a.tdiv 4294967296 = x ∧ 0 ≤ x ∧ x ≤ 4294967295 := ⟨_, rfl, by rw [Int.tdiv_eq_ediv_of_nonneg ha.1]; omega, by rw [Int.tdiv_eq_ediv_of_nonneg ha.1]; omega⟩
  obtain ⟨b1, eb1, hb1, kb1⟩ : ∃ x, b.tdiv 4294967296 = x ∧ 0 ≤ x ∧ x ≤ 4294967295 := ⟨_, rfl, by rw [Int.tdiv_eq_ediv_of_nonneg hb.1]; omega, by rw [Int.tdiv_eq_ediv_of_nonneg hb.1]; omega⟩
  rw [ea0, eb0, ea1, eb1] at W0
  obtain ⟨q00, k00⟩ := half_prod ha0 ka0 hb0 kb0
  obtain ⟨q10, k10⟩ := half_prod ha1 ka1 hb0 kb0
  obtain ⟨q01, k01⟩ := half_prod ha0 ka0 hb1 kb1
  obtain ⟨q11, k11⟩ := half_prod ha1 ka1 hb1 kb1
  obtain ⟨p00, e00⟩ : ∃ x, a0 * b0 = x := ⟨_, rfl⟩
  obtain ⟨p10, e10⟩ : ∃ x, a1 * b0 = x := ⟨_, rfl⟩
  obtain ⟨p01, e01⟩ : ∃ x, a0 * b1 = x := ⟨_, rfl⟩
  obtain ⟨p11, e11⟩ : ∃ x, a1 * b1 = x := ⟨_, rfl⟩
  rw [e00] at q00 k00 W0
  rw [e10] at q10 k10 W0
  rw [e01] at q01 k01 W0
  rw [e11] at q11 k11 W0
  have W := Lib.hid (whole_plain _ _ _ _ _ W0 q00 q10 q01 q11 k00 k10 k01 k11)
  have R := Lib.hid (show p11 + (p10 + p00 / 4294967296) / 4294967296 + (p01 + (p10 + p00 / 4294967296) % 4294967296) / 4294967296 ≤ 18446744073709551615 by omega)
  clear W0 ha hb
  go_enter Try.func101, Try.ntmps101
  go_wp2
  go_ret2
  refine ⟨?_, rfl⟩
  have h1 := W.out.1
  have h2 := W.out.2
  have h3 : IntKind.u64.wrap (IntKind.u64.wrap ((p01 + (p10 + p00 / 4294967296) % 4294967296) * 4294967296) + p00 % 4294967296) = a * b % 18446744073709551616 := by
    rw [h2, IntKind.wrap_u64]; omega
  show Ending.returned (.tuple #[.int .u64 (p11 + (p10 + p00 / 4294967296) / 4294967296 + (p01 + (p10 + p00 / 4294967296) % 4294967296) / 4294967296), .int .u64 (IntKind.u64.wrap (IntKind.u64.wrap ((p01 + (p10 + p00 / 4294967296) % 4294967296) * 4294967296) + p00 % 4294967296))]) = _
  rw [h3, h1]
theorem whole_lt {P Q : Int} (hP : 0 ≤ P) (hQ : 0 ≤ Q) : (decide (P / 18446744073709551616 < Q / 18446744073709551616) || (P / 18446744073709551616 == Q / 18446744073709551616 && decide (P % 18446744073709551616 < Q % 18446744073709551616))) = decide (P < Q) := by
  rw [Bool.eq_iff_iff]; simp; omega
set_option maxHeartbeats 2000000 in
theorem ref_Below (a b : Fr) (ha1 : u64ok a.1) (ha2 : u64ok a.2) (hb1 : u64ok b.1) (hb2 : u64ok b.2) (oa : OkF a) (ob : OkF b) (w : World) :
    Calls Try.prog 85 #[.agg #[.int .u64 a.1, .int .u64 a.2], .agg #[.int .u64 b.1, .int .u64 b.2]] w fun e w' => e = .returned (.bool (decide (ltF a b))) ∧ Below w.heap.size w w' := by
  have s1 := oa.some; have s2 := ob.some
  have T1 := fun w => ref_whole a.1 b.2 ha1 hb2 w
  have T2 := fun w => ref_whole b.1 a.2 hb1 ha2 w
  have r1 := oa.num; have r2 := oa.den; have r3 := ob.num; have r4 := ob.den
  clear oa ob ha1 ha2 hb1 hb2
  obtain ⟨an, ad⟩ := a
  obtain ⟨bn, bd⟩ := b
  simp only [] at *
  by_cases ha : ad = 0
  · subst ha
    have E : Hid (decide (ltF (an, 0) (bn, bd)) = false) := Lib.hid (by
      have := Int.mul_nonneg r1 r4
      unfold ltF; simp; omega)
    clear T1 T2
    go_enter Try.func85, Try.ntmps85
    go_wp2
    go_ret
    exact ⟨by rw [E.out]; rfl, below_new (below_new (Below.refl _ _) _) _⟩
  · have ha0 : (ad == 0) = false := by simpa using ha
    have ha9 : (ad != 0) = true := by simpa using ha
    by_cases hb : bd = 0
    · subst hb
      have E : Hid (decide (ltF (an, ad) (bn, 0)) = true) := Lib.hid (by
        have : 0 < bn * ad := Int.mul_pos (by omega) (by omega)
        unfold ltF; simp; omega)
      clear T1 T2
      go_enter Try.func85, Try.ntmps85
      go_wp2
      go_ret
      exact ⟨by rw [E.out]; rfl, below_new (below_new (Below.refl _ _) _) _⟩
    · have hb0 : (bd == 0) = false := by simpa using hb
      have E : Hid (∀ x : Bool, x = decide (an * bd < bn * ad) → x = decide (ltF (an, ad) (bn, bd))) := Lib.hid (fun x h => by rw [h]; rfl)
      have EW := Lib.hid (whole_lt (Int.mul_nonneg r1 r4) (Int.mul_nonneg r3 r2))
      obtain ⟨P, hP⟩ : ∃ P, an * bd = P := ⟨_, rfl⟩
      obtain ⟨Q, hQ⟩ : ∃ Q, bn * ad = Q := ⟨_, rfl⟩
      rw [hP] at T1 EW
      rw [hQ] at T2 EW
      rw [hP, hQ] at E
      obtain ⟨p1, e1⟩ : ∃ x, P / 18446744073709551616 = x := ⟨_, rfl⟩
      obtain ⟨p2, e2⟩ : ∃ x, P % 18446744073709551616 = x := ⟨_, rfl⟩
      obtain ⟨q1, e3⟩ : ∃ x, Q / 18446744073709551616 = x := ⟨_, rfl⟩
      obtain ⟨q2, e4⟩ : ∃ x, Q % 18446744073709551616 = x := ⟨_, rfl⟩
      rw [e1, e2] at T1 EW
      rw [e3, e4] at T2 EW
      clear hP hQ e1 e2 e3 e4 s1 s2 r1 r2 r3 r4 ha hb
      have X := Lib.hid (E.out _ EW.out)
      go_enter Try.func85, Try.ntmps85
      go_wp2_with fail
      refine (T1 _).mono ?_
      rintro e w1 ⟨rfl, rfl⟩
      go_wp2_with fail
      refine (T2 _).mono ?_
      rintro e w1 ⟨rfl, rfl⟩
      clear T1 T2
      go_wp2_with fail
      all_goals go_ret
      all_goals refine ⟨?_, below_new (below_new (Below.refl _ _) _) _⟩
      all_goals rw [← X.out]
      all_goals refine congrArg (fun b => Ending.returned (.bool b)) ?_
      · have h : p1 = q1 := by assumption
        have k : ¬ p1 < q1 := by omega
        show decide (p2 < q2) = _
        simp [h]
      · have h : ¬ p1 = q1 := by assumption
        have k : ¬ p1 < q1 := by omega
        show decide (p1 < q1) = _
        simp [h, k]
      · have h : p1 < q1 := by assumption
        show true = _
        simp [h]
end Go.Proofs.Ytnccgpdniigekaa
