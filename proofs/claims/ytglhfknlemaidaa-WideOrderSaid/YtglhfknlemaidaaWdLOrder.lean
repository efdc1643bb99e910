/-
  WideOrder: the walk.
-/
import Derived.Test.YtglhfknlemaidaaWdKeeps
namespace Go.Proofs.Ytglhfknlemaidaa
open Go.RowKit
set_option linter.unusedVariables false
set_option linter.unusedSimpArgs false
attribute [local go_sem high] eqInt

theorem hi_lt {x y : Int} (hx : i128ok x) (hy : i128ok y) (h : (I128.enc x).1 < (I128.enc y).1) : x < y := by
  have a := I128.val_enc_of hx; have b := I128.val_enc_of hy
  have c := I128.enc_u64 x; have d := I128.enc_u64 y
  unfold u64ok at c d; unfold I128.val at a b
  generalize (I128.enc x).1 = hx at *; generalize (I128.enc x).2 = lx at *; generalize (I128.enc y).1 = hy at *; generalize (I128.enc y).2 = ly at *
  omega
theorem hi_neg {x : Int} (hx : i128ok x) : (I128.enc x).1 < 0 ↔ x < 0 := by
  have a := I128.val_enc_of hx
  have c := I128.enc_u64 x
  unfold u64ok at c; unfold I128.val at a
  generalize (I128.enc x).1 = hx at *; generalize (I128.enc x).2 = lx at *
  omega
theorem enc_ne {x y : Int} (hx : i128ok x) (hy : i128ok y) (h : x ≠ y) : ((I128.enc x).1 == (I128.enc y).1 && ((I128.enc x).2 == (I128.enc y).2)) = false := by
  rw [Bool.eq_false_iff]; intro e
  simp only [Bool.and_eq_true, beq_iff_eq] at e
  exact h (I128.enc_inj hx hy (Prod.ext e.1 e.2))
theorem i64_128 {a : Int} (h : i64ok a) : i128ok a := by unfold i64ok at h; unfold i128ok; omega
theorem cmp_three (x y : Int) : (x < y ∧ cmpI x y = -1) ∨ (x = y ∧ cmpI x y = 0) ∨ (y < x ∧ cmpI x y = 1) := by
  rcases Int.lt_trichotomy x y with h | h | h
  · exact .inl ⟨h, cmpI_lt h⟩
  · exact .inr (.inl ⟨h, cmpI_eq h⟩)
  · exact .inr (.inr ⟨h, cmpI_gt h⟩)
theorem rep (s : Int) : ∃ s', i128ok s' ∧ I128.enc s = I128.enc s' ∧ ∃ m : Int, s = s' + m * 340282366920938463463374607431768211456 := by
  obtain ⟨m, hm⟩ := I128.val_enc s
  refine ⟨I128.val (I128.enc s).1 (I128.enc s).2, I128.val_ok (I128.enc_i64 s) (I128.enc_u64 s), (I128.enc_val (I128.enc_i64 s) (I128.enc_u64 s)).symm, -m, ?_⟩
  omega

set_option maxHeartbeats 25600000 in
set_option maxRecDepth 100000 in
theorem wideOrder_walk {x y z : Int} (hx : i128ok x) (hy : i128ok y) (hz : i128ok z) (w : World) :
    Calls Try.prog 8 #[.agg #[.int .i64 (I128.enc (x)).1, .int .u64 (I128.enc (x)).2], .agg #[.int .i64 (I128.enc (y)).1, .int .u64 (I128.enc (y)).2], .agg #[.int .i64 (I128.enc (z)).1, .int .u64 (I128.enc (z)).2]] w fun e w' => e = .returned (.bool true) ∧ Below w.heap.size w w' := by
  have kxy := cCmp hx hy
  have kyz := cCmp hy hz
  have kyx := cCmp hy hx
  have kxz := cCmp hx hz
  have kox := cOf (I128.enc_i64 x)
  have koy := cOf (I128.enc_i64 y)
  have kv := cCmp (i64_128 (I128.enc_i64 x)) (i64_128 (I128.enc_i64 y))
  have kS := cAdd x y
  obtain ⟨s', so, se, m, sm⟩ := rep (x + y)
  have kC := cCmp so hx
  rw [← se] at kC
  have PP := Lib.hid (cmp_three x y)
  have PN := Lib.hid (cmp_three y x)
  have QQ := Lib.hid (cmp_three y z)
  have RR := Lib.hid (cmp_three x z)
  have VV := Lib.hid (cmp_three (I128.enc x).1 (I128.enc y).1)
  have VL := Lib.hid (fun h => hi_lt hx hy h)
  have EN := Lib.hid (fun h => enc_ne hx hy h)
  have CC : Hid (0 ≤ (I128.enc y).1 → ((I128.enc x).1 < 0 ∨ 0 ≤ (I128.enc (x + y)).1) → ¬ cmpI s' x < 0) := Lib.hid (fun h1 h2 => by
    have n1 := hi_neg hy; have n2 := hi_neg hx; have n3 := hi_neg so
    rw [se] at h2
    rcases cmp_three s' x with h | h | h <;> (unfold i128ok at hx hy so; omega))
  obtain ⟨p, hp⟩ : ∃ p, cmpI x y = p := ⟨_, rfl⟩
  obtain ⟨p', hp'⟩ : ∃ p', cmpI y x = p' := ⟨_, rfl⟩
  obtain ⟨q, hq⟩ : ∃ q, cmpI y z = q := ⟨_, rfl⟩
  obtain ⟨r, hr⟩ : ∃ r, cmpI x z = r := ⟨_, rfl⟩
  obtain ⟨v, hv⟩ : ∃ v, cmpI (I128.enc x).1 (I128.enc y).1 = v := ⟨_, rfl⟩
  obtain ⟨c, hc⟩ : ∃ c, cmpI s' x = c := ⟨_, rfl⟩
  rw [hp] at kxy PP
  rw [hp'] at kyx PN
  rw [hq] at kyz QQ
  rw [hr] at kxz RR
  rw [hv] at kv VV
  rw [hc] at kC CC
  clear hp hp' hq hr hv hc hx hy hz so se sm
  have K0 : Keeps w [(w.heap.size + 2, #[.int .i64 (I128.enc (z)).1, .int .u64 (I128.enc (z)).2]), (w.heap.size + 1, #[.int .i64 (I128.enc (y)).1, .int .u64 (I128.enc (y)).2]), (w.heap.size, #[.int .i64 (I128.enc (x)).1, .int .u64 (I128.enc (x)).2])] (((w.alloc (.cells #[.int .i64 (I128.enc (x)).1, .int .u64 (I128.enc (x)).2] 25)).alloc (.cells #[.int .i64 (I128.enc (y)).1, .int .u64 (I128.enc (y)).2] 25)).alloc (.cells #[.int .i64 (I128.enc (z)).1, .int .u64 (I128.enc (z)).2] 25)) := (((Keeps.nil w).box rfl #[.int .i64 (I128.enc (x)).1, .int .u64 (I128.enc (x)).2]).box (by simp) #[.int .i64 (I128.enc (y)).1, .int .u64 (I128.enc (y)).2]).box (by simp) #[.int .i64 (I128.enc (z)).1, .int .u64 (I128.enc (z)).2]
  go_enter Try.func8, Try.ntmps8
  go_wp2_with fail
  refine (inclinelaw01_shown_any _).mono ?_
  rintro e w1 ⟨rfl, b1⟩
  have K1 := K0.next b1
  clear b1 K0
  go_wp2_with (first | (refine load_blk rfl 25 (.tmp 3) rfl _ rfl (Keeps.at2 K1) Try.underlying25 rfl (by kernel_rfl) ?_) | (refine load_blk rfl 25 (.tmp 4) rfl _ rfl (Keeps.at1 K1) Try.underlying25 rfl (by kernel_rfl) ?_) | (refine load_blk rfl 25 (.tmp 5) rfl _ rfl (Keeps.at0 K1) Try.underlying25 rfl (by kernel_rfl) ?_))
  refine (kxy _).mono ?_
  rintro e w2 ⟨rfl, b2⟩
  have K2 := K1.next b2
  clear K1 b2
  go_wp2_with (first | (refine load_blk rfl 25 (.tmp 3) rfl _ rfl (Keeps.at2 K2) Try.underlying25 rfl (by kernel_rfl) ?_) | (refine load_blk rfl 25 (.tmp 4) rfl _ rfl (Keeps.at1 K2) Try.underlying25 rfl (by kernel_rfl) ?_) | (refine load_blk rfl 25 (.tmp 5) rfl _ rfl (Keeps.at0 K2) Try.underlying25 rfl (by kernel_rfl) ?_))
  refine (kyz _).mono ?_
  rintro e w3 ⟨rfl, b3⟩
  have K3 := K2.next b3
  clear K2 b3
  go_upto_region 6 with fail
  go_cut [41] (fun sx wx => sx = .bool false ∧ Keeps w [(w.heap.size + 2, #[.int .i64 (I128.enc (z)).1, .int .u64 (I128.enc (z)).2]), (w.heap.size + 1, #[.int .i64 (I128.enc (y)).1, .int .u64 (I128.enc (y)).2]), (w.heap.size, #[.int .i64 (I128.enc (x)).1, .int .u64 (I128.enc (x)).2])] wx)
  case first =>
    rcases (show (x < y ∧ p = -1) ∨ (x = y ∧ p = 0) ∨ (y < x ∧ p = 1) from PP.out) with ⟨o1, o2⟩ | ⟨o1, o2⟩ | ⟨o1, o2⟩
    · skip
      obtain rfl : p = -1 := by have a := PP.out; omega
      obtain rfl : p' = 1 := by have a := PN.out; omega
      have en := EN.out (by omega)
      obtain ⟨c00, c01, c02, c03⟩ := (Keeps.at0 K3).cells2
      clear c02 c03
      obtain ⟨c10, c11, c12, c13⟩ := (Keeps.at1 K3).cells2
      clear c12 c13
      obtain ⟨c20, c21, c22, c23⟩ := (Keeps.at2 K3).cells2
      clear c22 c23
      go_wp2_with fail
      refine (kyx _).mono ?_
      rintro e w4 ⟨rfl, b4⟩
      have K4 := K3.next b4
      clear c00 c01 c10 c11 c20 c21 K3
      obtain ⟨c00, c01, c02, c03⟩ := (Keeps.at0 K4).cells2
      clear c02 c03
      obtain ⟨c10, c11, c12, c13⟩ := (Keeps.at1 K4).cells2
      clear c12 c13
      obtain ⟨c20, c21, c22, c23⟩ := (Keeps.at2 K4).cells2
      clear c22 c23
      go_wp2_with fail
      go_meet
      exact ⟨by simp, K4⟩
    · skip
      obtain rfl : p = 0 := by have a := PP.out; omega
      obtain rfl : p' = 0 := by have a := PN.out; omega
      obtain rfl : y = x := by have a := PP.out; omega
      obtain ⟨c00, c01, c02, c03⟩ := (Keeps.at0 K3).cells2
      clear c02 c03
      obtain ⟨c10, c11, c12, c13⟩ := (Keeps.at1 K3).cells2
      clear c12 c13
      obtain ⟨c20, c21, c22, c23⟩ := (Keeps.at2 K3).cells2
      clear c22 c23
      go_wp2_with fail
      refine (kyx _).mono ?_
      rintro e w4 ⟨rfl, b4⟩
      have K4 := K3.next b4
      clear c00 c01 c10 c11 c20 c21 K3
      obtain ⟨c00, c01, c02, c03⟩ := (Keeps.at0 K4).cells2
      clear c02 c03
      obtain ⟨c10, c11, c12, c13⟩ := (Keeps.at1 K4).cells2
      clear c12 c13
      obtain ⟨c20, c21, c22, c23⟩ := (Keeps.at2 K4).cells2
      clear c22 c23
      go_wp2_with fail
      go_meet
      exact ⟨by simp, K4⟩
    · skip
      obtain rfl : p = 1 := by have a := PP.out; omega
      obtain rfl : p' = -1 := by have a := PN.out; omega
      have en := EN.out (by omega)
      obtain ⟨c00, c01, c02, c03⟩ := (Keeps.at0 K3).cells2
      clear c02 c03
      obtain ⟨c10, c11, c12, c13⟩ := (Keeps.at1 K3).cells2
      clear c12 c13
      obtain ⟨c20, c21, c22, c23⟩ := (Keeps.at2 K3).cells2
      clear c22 c23
      go_wp2_with fail
      refine (kyx _).mono ?_
      rintro e w4 ⟨rfl, b4⟩
      have K4 := K3.next b4
      clear c00 c01 c10 c11 c20 c21 K3
      obtain ⟨c00, c01, c02, c03⟩ := (Keeps.at0 K4).cells2
      clear c02 c03
      obtain ⟨c10, c11, c12, c13⟩ := (Keeps.at1 K4).cells2
      clear c12 c13
      obtain ⟨c20, c21, c22, c23⟩ := (Keeps.at2 K4).cells2
      clear c22 c23
      go_wp2_with fail
      go_meet
      exact ⟨by simp, K4⟩
  case rest =>
    obtain ⟨rfl, K5⟩ := hcut
    go_upto_region 8 with fail
    go_cut [67] (fun sx wx => sx = .bool false ∧ Keeps w [(w.heap.size + 2, #[.int .i64 (I128.enc (z)).1, .int .u64 (I128.enc (z)).2]), (w.heap.size + 1, #[.int .i64 (I128.enc (y)).1, .int .u64 (I128.enc (y)).2]), (w.heap.size, #[.int .i64 (I128.enc (x)).1, .int .u64 (I128.enc (x)).2])] wx)
    case first =>
      rcases (show (x < y ∧ p = -1) ∨ (x = y ∧ p = 0) ∨ (y < x ∧ p = 1) from PP.out) with ⟨o1, o2⟩ | ⟨o1, o2⟩ | ⟨o1, o2⟩
      · rcases (show (y < z ∧ q = -1) ∨ (y = z ∧ q = 0) ∨ (z < y ∧ q = 1) from QQ.out) with ⟨o3, o4⟩ | ⟨o3, o4⟩ | ⟨o3, o4⟩
        · subst o2 o4
          have g1 : decide (0 < r) = false := by have u := RR.out; simp; omega
          clear o1 o3
          obtain ⟨c00, c01, c02, c03⟩ := (Keeps.at0 K5).cells2
          clear c02 c03
          obtain ⟨c10, c11, c12, c13⟩ := (Keeps.at1 K5).cells2
          clear c12 c13
          obtain ⟨c20, c21, c22, c23⟩ := (Keeps.at2 K5).cells2
          clear c22 c23
          go_wp2_with fail
          refine (kxz _).mono ?_
          rintro e w6 ⟨rfl, b6⟩
          have K6 := K5.next b6
          clear c00 c01 c10 c11 c20 c21 K5 b6
          obtain ⟨c00, c01, c02, c03⟩ := (Keeps.at0 K6).cells2
          clear c02 c03
          obtain ⟨c10, c11, c12, c13⟩ := (Keeps.at1 K6).cells2
          clear c12 c13
          obtain ⟨c20, c21, c22, c23⟩ := (Keeps.at2 K6).cells2
          clear c22 c23
          have K7 := K6
          clear K6
          go_wp2_with fail
          go_meet
          exact ⟨by simp, K7⟩
        · subst o2 o4
          have g1 : decide (0 < r) = false := by have u := RR.out; simp; omega
          clear o1 o3
          obtain ⟨c00, c01, c02, c03⟩ := (Keeps.at0 K5).cells2
          clear c02 c03
          obtain ⟨c10, c11, c12, c13⟩ := (Keeps.at1 K5).cells2
          clear c12 c13
          obtain ⟨c20, c21, c22, c23⟩ := (Keeps.at2 K5).cells2
          clear c22 c23
          go_wp2_with fail
          refine (kxz _).mono ?_
          rintro e w6 ⟨rfl, b6⟩
          have K6 := K5.next b6
          clear c00 c01 c10 c11 c20 c21 K5 b6
          obtain ⟨c00, c01, c02, c03⟩ := (Keeps.at0 K6).cells2
          clear c02 c03
          obtain ⟨c10, c11, c12, c13⟩ := (Keeps.at1 K6).cells2
          clear c12 c13
          obtain ⟨c20, c21, c22, c23⟩ := (Keeps.at2 K6).cells2
          clear c22 c23
          have K7 := K6
          clear K6
          go_wp2_with fail
          go_meet
          exact ⟨by simp, K7⟩
        · subst o2 o4
          clear o1 o3
          obtain ⟨c00, c01, c02, c03⟩ := (Keeps.at0 K5).cells2
          clear c02 c03
          obtain ⟨c10, c11, c12, c13⟩ := (Keeps.at1 K5).cells2
          clear c12 c13
          obtain ⟨c20, c21, c22, c23⟩ := (Keeps.at2 K5).cells2
          clear c22 c23
          go_wp2_with fail
          go_meet
          exact ⟨by simp, K5⟩
      · rcases (show (y < z ∧ q = -1) ∨ (y = z ∧ q = 0) ∨ (z < y ∧ q = 1) from QQ.out) with ⟨o3, o4⟩ | ⟨o3, o4⟩ | ⟨o3, o4⟩
        · subst o2 o4
          have g1 : decide (0 < r) = false := by have u := RR.out; simp; omega
          clear o1 o3
          obtain ⟨c00, c01, c02, c03⟩ := (Keeps.at0 K5).cells2
          clear c02 c03
          obtain ⟨c10, c11, c12, c13⟩ := (Keeps.at1 K5).cells2
          clear c12 c13
          obtain ⟨c20, c21, c22, c23⟩ := (Keeps.at2 K5).cells2
          clear c22 c23
          go_wp2_with fail
          refine (kxz _).mono ?_
          rintro e w6 ⟨rfl, b6⟩
          have K6 := K5.next b6
          clear c00 c01 c10 c11 c20 c21 K5 b6
          obtain ⟨c00, c01, c02, c03⟩ := (Keeps.at0 K6).cells2
          clear c02 c03
          obtain ⟨c10, c11, c12, c13⟩ := (Keeps.at1 K6).cells2
          clear c12 c13
          obtain ⟨c20, c21, c22, c23⟩ := (Keeps.at2 K6).cells2
          clear c22 c23
          have K7 := K6
          clear K6
          go_wp2_with fail
          go_meet
          exact ⟨by simp, K7⟩
        · subst o2 o4
          have g1 : decide (0 < r) = false := by have u := RR.out; simp; omega
          have g2 : decide (r < 0) = false := by have u := RR.out; simp; omega
          clear o1 o3
          obtain ⟨c00, c01, c02, c03⟩ := (Keeps.at0 K5).cells2
          clear c02 c03
          obtain ⟨c10, c11, c12, c13⟩ := (Keeps.at1 K5).cells2
          clear c12 c13
          obtain ⟨c20, c21, c22, c23⟩ := (Keeps.at2 K5).cells2
          clear c22 c23
          go_wp2_with fail
          refine (kxz _).mono ?_
          rintro e w6 ⟨rfl, b6⟩
          have K6 := K5.next b6
          clear c00 c01 c10 c11 c20 c21 K5 b6
          obtain ⟨c00, c01, c02, c03⟩ := (Keeps.at0 K6).cells2
          clear c02 c03
          obtain ⟨c10, c11, c12, c13⟩ := (Keeps.at1 K6).cells2
          clear c12 c13
          obtain ⟨c20, c21, c22, c23⟩ := (Keeps.at2 K6).cells2
          clear c22 c23
          have K7 := K6
          clear K6
          go_wp2_with fail
          refine (kxz _).mono ?_
          rintro e w6 ⟨rfl, b6⟩
          have K6 := K7.next b6
          clear c00 c01 c10 c11 c20 c21 K7 b6
          obtain ⟨c00, c01, c02, c03⟩ := (Keeps.at0 K6).cells2
          clear c02 c03
          obtain ⟨c10, c11, c12, c13⟩ := (Keeps.at1 K6).cells2
          clear c12 c13
          obtain ⟨c20, c21, c22, c23⟩ := (Keeps.at2 K6).cells2
          clear c22 c23
          have K7 := K6
          clear K6
          go_wp2_with fail
          go_meet
          exact ⟨by simp, K7⟩
        · subst o2 o4
          have g2 : decide (r < 0) = false := by have u := RR.out; simp; omega
          clear o1 o3
          obtain ⟨c00, c01, c02, c03⟩ := (Keeps.at0 K5).cells2
          clear c02 c03
          obtain ⟨c10, c11, c12, c13⟩ := (Keeps.at1 K5).cells2
          clear c12 c13
          obtain ⟨c20, c21, c22, c23⟩ := (Keeps.at2 K5).cells2
          clear c22 c23
          go_wp2_with fail
          refine (kxz _).mono ?_
          rintro e w6 ⟨rfl, b6⟩
          have K6 := K5.next b6
          clear c00 c01 c10 c11 c20 c21 K5 b6
          obtain ⟨c00, c01, c02, c03⟩ := (Keeps.at0 K6).cells2
          clear c02 c03
          obtain ⟨c10, c11, c12, c13⟩ := (Keeps.at1 K6).cells2
          clear c12 c13
          obtain ⟨c20, c21, c22, c23⟩ := (Keeps.at2 K6).cells2
          clear c22 c23
          have K7 := K6
          clear K6
          go_wp2_with fail
          go_meet
          exact ⟨by simp, K7⟩
      · rcases (show (y < z ∧ q = -1) ∨ (y = z ∧ q = 0) ∨ (z < y ∧ q = 1) from QQ.out) with ⟨o3, o4⟩ | ⟨o3, o4⟩ | ⟨o3, o4⟩
        · subst o2 o4
          clear o1 o3
          obtain ⟨c00, c01, c02, c03⟩ := (Keeps.at0 K5).cells2
          clear c02 c03
          obtain ⟨c10, c11, c12, c13⟩ := (Keeps.at1 K5).cells2
          clear c12 c13
          obtain ⟨c20, c21, c22, c23⟩ := (Keeps.at2 K5).cells2
          clear c22 c23
          go_wp2_with fail
          go_meet
          exact ⟨by simp, K5⟩
        · subst o2 o4
          have g2 : decide (r < 0) = false := by have u := RR.out; simp; omega
          clear o1 o3
          obtain ⟨c00, c01, c02, c03⟩ := (Keeps.at0 K5).cells2
          clear c02 c03
          obtain ⟨c10, c11, c12, c13⟩ := (Keeps.at1 K5).cells2
          clear c12 c13
          obtain ⟨c20, c21, c22, c23⟩ := (Keeps.at2 K5).cells2
          clear c22 c23
          go_wp2_with fail
          refine (kxz _).mono ?_
          rintro e w6 ⟨rfl, b6⟩
          have K6 := K5.next b6
          clear c00 c01 c10 c11 c20 c21 K5 b6
          obtain ⟨c00, c01, c02, c03⟩ := (Keeps.at0 K6).cells2
          clear c02 c03
          obtain ⟨c10, c11, c12, c13⟩ := (Keeps.at1 K6).cells2
          clear c12 c13
          obtain ⟨c20, c21, c22, c23⟩ := (Keeps.at2 K6).cells2
          clear c22 c23
          have K7 := K6
          clear K6
          go_wp2_with fail
          go_meet
          exact ⟨by simp, K7⟩
        · subst o2 o4
          have g2 : decide (r < 0) = false := by have u := RR.out; simp; omega
          clear o1 o3
          obtain ⟨c00, c01, c02, c03⟩ := (Keeps.at0 K5).cells2
          clear c02 c03
          obtain ⟨c10, c11, c12, c13⟩ := (Keeps.at1 K5).cells2
          clear c12 c13
          obtain ⟨c20, c21, c22, c23⟩ := (Keeps.at2 K5).cells2
          clear c22 c23
          go_wp2_with fail
          refine (kxz _).mono ?_
          rintro e w6 ⟨rfl, b6⟩
          have K6 := K5.next b6
          clear c00 c01 c10 c11 c20 c21 K5 b6
          obtain ⟨c00, c01, c02, c03⟩ := (Keeps.at0 K6).cells2
          clear c02 c03
          obtain ⟨c10, c11, c12, c13⟩ := (Keeps.at1 K6).cells2
          clear c12 c13
          obtain ⟨c20, c21, c22, c23⟩ := (Keeps.at2 K6).cells2
          clear c22 c23
          have K7 := K6
          clear K6
          go_wp2_with fail
          go_meet
          exact ⟨by simp, K7⟩
    case rest =>
      obtain ⟨rfl, K8⟩ := hcut
      go_upto_region 10 with fail
      go_cut [92] (fun sx wx => sx = .bool false ∧ Keeps w [(w.heap.size + 2, #[.int .i64 (I128.enc (z)).1, .int .u64 (I128.enc (z)).2]), (w.heap.size + 1, #[.int .i64 (I128.enc (y)).1, .int .u64 (I128.enc (y)).2]), (w.heap.size, #[.int .i64 (I128.enc (x)).1, .int .u64 (I128.enc (x)).2])] wx)
      case first =>
        rcases VV.out with ⟨o1, o2⟩ | ⟨o1, o2⟩ | ⟨o1, o2⟩
        · subst o2
          have g1 : decide ((I128.enc x).1 < (I128.enc y).1) = true := by simp; omega
          have o3 := VL.out o1
          obtain rfl : p = -1 := by have a := PP.out; omega
          clear o3
          clear o1
          refine wp_region_held_drew (S := (Keeps w [(w.heap.size + 2, #[.int .i64 (I128.enc (z)).1, .int .u64 (I128.enc (z)).2]), (w.heap.size + 1, #[.int .i64 (I128.enc (y)).1, .int .u64 (I128.enc (y)).2]), (w.heap.size, #[.int .i64 (I128.enc (x)).1, .int .u64 (I128.enc (x)).2])])) (by kernel_rfl) (K8.drew) (fun hS_ => ?_)
          refine wpAnyH_take (i := 0) (v := .pointer (some ⟨w.heap.size, 0, none⟩)) rfl (by kernel_rfl) (by kernel_rfl) (by kernel_rfl) (fun _ _ _ h => h) (Or.inl ⟨by rfl, by intro w hSw; go_simp⟩) hS_ ?_
          (try simp only [Act.put, List.setIfInBounds_toArray, List.set_cons_zero, List.set_cons_succ])
          refine wpAnyH_take (i := 1) rfl (by kernel_rfl) (by kernel_rfl) (by kernel_rfl) (fun _ _ _ h => h) (yields_load_cell (.int .i64 (I128.enc x).1) (by rfl) (fun wq hq => by have hcq := (Keeps.at2 hq).cells2.1; go_simp)) hS_ ?_
          (try simp only [Act.put, List.setIfInBounds_toArray, List.set_cons_zero, List.set_cons_succ])
          refine wpAnyH_take (i := 3) (v := .pointer (some ⟨w.heap.size + 1, 0, none⟩)) rfl (by kernel_rfl) (by kernel_rfl) (by kernel_rfl) (fun _ _ _ h => h) (Or.inl ⟨by rfl, by intro w hSw; go_simp⟩) hS_ ?_
          (try simp only [Act.put, List.setIfInBounds_toArray, List.set_cons_zero, List.set_cons_succ])
          refine wpAnyH_take (i := 4) rfl (by kernel_rfl) (by kernel_rfl) (by kernel_rfl) (fun _ _ _ h => h) (yields_load_cell (.int .i64 (I128.enc y).1) (by rfl) (fun wq hq => by have hcq := (Keeps.at1 hq).cells2.1; go_simp)) hS_ ?_
          (try simp only [Act.put, List.setIfInBounds_toArray, List.set_cons_zero, List.set_cons_succ])
          refine wpAnyH_take (i := 8) (v := .pointer (some ⟨w.heap.size, 0, none⟩)) rfl (by kernel_rfl) (by kernel_rfl) (by kernel_rfl) (fun _ _ _ h => h) (Or.inl ⟨by rfl, by intro w hSw; go_simp⟩) hS_ ?_
          (try simp only [Act.put, List.setIfInBounds_toArray, List.set_cons_zero, List.set_cons_succ])
          refine wpAnyH_take (i := 9) rfl (by kernel_rfl) (by kernel_rfl) (by kernel_rfl) (fun _ _ _ h => h) (yields_load_cell (.int .i64 (I128.enc x).1) (by rfl) (fun wq hq => by have hcq := (Keeps.at2 hq).cells2.1; go_simp)) hS_ ?_
          (try simp only [Act.put, List.setIfInBounds_toArray, List.set_cons_zero, List.set_cons_succ])
          refine wpAnyH_take (i := 10) (v := .pointer (some ⟨w.heap.size + 1, 0, none⟩)) rfl (by kernel_rfl) (by kernel_rfl) (by kernel_rfl) (fun _ _ _ h => h) (Or.inl ⟨by rfl, by intro w hSw; go_simp⟩) hS_ ?_
          (try simp only [Act.put, List.setIfInBounds_toArray, List.set_cons_zero, List.set_cons_succ])
          refine wpAnyH_take (i := 11) rfl (by kernel_rfl) (by kernel_rfl) (by kernel_rfl) (fun _ _ _ h => h) (yields_load_cell (.int .i64 (I128.enc y).1) (by rfl) (fun wq hq => by have hcq := (Keeps.at1 hq).cells2.1; go_simp)) hS_ ?_
          (try simp only [Act.put, List.setIfInBounds_toArray, List.set_cons_zero, List.set_cons_succ])
          refine wpAnyH_take (i := 12) (v := .bool true) rfl (by kernel_rfl) (by kernel_rfl) (by kernel_rfl) (fun _ _ _ h => h) (Or.inl ⟨by rfl, by intro w hSw; go_simp⟩) hS_ ?_
          (try simp only [Act.put, List.setIfInBounds_toArray, List.set_cons_zero, List.set_cons_succ])
          refine wpAnyH_ready (rs := [2]) (by kernel_rfl) (by simp) (AllReadyH.cons rfl (fun K hK => ?_) AllReadyH.nil)
          go_simp
          refine (kox _).mono ?_
          rintro e v10_2 ⟨rfl, bn⟩
          (try go_wp2_with fail)
          refine hK.out _ _ (Keeps.next hS_ bn) (fun hS_ => ?_)
          clear hK K bn
          (try simp only [Act.put, List.setIfInBounds_toArray, List.set_cons_zero, List.set_cons_succ])
          refine wpAnyH_ready (rs := [5]) (by kernel_rfl) (by simp) (AllReadyH.cons rfl (fun K hK => ?_) AllReadyH.nil)
          go_simp
          refine (koy _).mono ?_
          rintro e v10_5 ⟨rfl, bn⟩
          (try go_wp2_with fail)
          refine hK.out _ _ (Keeps.next hS_ bn) (fun hS_ => ?_)
          clear hK K bn
          (try simp only [Act.put, List.setIfInBounds_toArray, List.set_cons_zero, List.set_cons_succ])
          refine wpAnyH_ready (rs := [6]) (by kernel_rfl) (by simp) (AllReadyH.cons rfl (fun K hK => ?_) AllReadyH.nil)
          go_simp
          refine (kv _).mono ?_
          rintro e v10_6 ⟨rfl, bn⟩
          (try go_wp2_with fail)
          refine hK.out _ _ (Keeps.next hS_ bn) (fun hS_ => ?_)
          clear hK K bn
          (try simp only [Act.put, List.setIfInBounds_toArray, List.set_cons_zero, List.set_cons_succ])
          refine wpAnyH_ready (rs := [7]) (by kernel_rfl) (by simp) (AllReadyH.cons rfl (fun K hK => ?_) AllReadyH.nil)
          go_simp
          (try go_wp2_with fail)
          refine hK.out _ _ (hS_) (fun hS_ => ?_)
          clear hK K
          (try simp only [Act.put, List.setIfInBounds_toArray, List.set_cons_zero, List.set_cons_succ])
          refine wpAnyH_ready (rs := [13]) (by kernel_rfl) (by simp) (AllReadyH.cons rfl (fun K hK => ?_) AllReadyH.nil)
          go_simp
          (try go_wp2_with fail)
          refine hK.out _ _ (hS_) (fun hS_ => ?_)
          clear hK K
          (try simp only [Act.put, List.setIfInBounds_toArray, List.set_cons_zero, List.set_cons_succ])
          refine wpAnyH_ready (rs := [14]) (by kernel_rfl) (by simp) (AllReadyH.cons rfl (fun K hK => ?_) AllReadyH.nil)
          go_simp
          (try go_wp2_with fail)
          refine hK.out _ _ (hS_) (fun hS_ => ?_)
          clear hK K
          (try simp only [Act.put, List.setIfInBounds_toArray, List.set_cons_zero, List.set_cons_succ])
          refine wpAnyH_take (i := 15) (v := .pointer (some ⟨w.heap.size, 0, none⟩)) rfl (by kernel_rfl) (by kernel_rfl) (by kernel_rfl) (fun _ _ _ h => h) (Or.inl ⟨by rfl, by intro w hSw; go_simp⟩) hS_ ?_
          (try simp only [Act.put, List.setIfInBounds_toArray, List.set_cons_zero, List.set_cons_succ])
          refine wpAnyH_take (i := 16) rfl (by kernel_rfl) (by kernel_rfl) (by kernel_rfl) (fun _ _ _ h => h) (yields_load_cell (.int .i64 (I128.enc x).1) (by rfl) (fun wq hq => by have hcq := (Keeps.at2 hq).cells2.1; go_simp)) hS_ ?_
          (try simp only [Act.put, List.setIfInBounds_toArray, List.set_cons_zero, List.set_cons_succ])
          refine wpAnyH_ready (rs := [17]) (by kernel_rfl) (by simp) (AllReadyH.cons rfl (fun K hK => ?_) AllReadyH.nil)
          go_simp
          (try go_wp2_with fail)
          refine hK.out _ _ (hS_) (fun hS_ => ?_)
          clear hK K
          (try simp only [Act.put, List.setIfInBounds_toArray, List.set_cons_zero, List.set_cons_succ])
          refine wpAnyH_take (i := 18) rfl (by kernel_rfl) (by kernel_rfl) (by kernel_rfl) (fun _ _ _ h => h) (yields_load_cell (.int .i64 (I128.enc y).1) (by rfl) (fun wq hq => by have hcq := (Keeps.at1 hq).cells2.1; go_simp)) hS_ ?_
          (try simp only [Act.put, List.setIfInBounds_toArray, List.set_cons_zero, List.set_cons_succ])
          refine wpAnyH_ready (rs := [19]) (by kernel_rfl) (by simp) (AllReadyH.cons rfl (fun K hK => ?_) AllReadyH.nil)
          go_simp
          (try go_wp2_with fail)
          refine hK.out _ _ (hS_) (fun hS_ => ?_)
          clear hK K
          (try simp only [Act.put, List.setIfInBounds_toArray, List.set_cons_zero, List.set_cons_succ])
          refine wpAnyH_ready (rs := [20]) (by kernel_rfl) (by simp) (AllReadyH.cons rfl (fun K hK => ?_) AllReadyH.nil)
          go_simp
          (try go_wp2_with fail)
          refine hK.out _ _ (hS_) (fun hS_ => ?_)
          clear hK K
          (try simp only [Act.put, List.setIfInBounds_toArray, List.set_cons_zero, List.set_cons_succ])
          refine wpAnyH_ready (rs := [21]) (by kernel_rfl) (by simp) (AllReadyH.cons rfl (fun K hK => ?_) AllReadyH.nil)
          go_simp
          (try go_wp2_with fail)
          refine hK.out _ _ (hS_) (fun hS_ => ?_)
          clear hK K
          (try simp only [Act.put, List.setIfInBounds_toArray, List.set_cons_zero, List.set_cons_succ])
          refine wpAnyH_ready (rs := [22]) (by kernel_rfl) (by simp) (AllReadyH.cons rfl (fun K hK => ?_) AllReadyH.nil)
          go_simp
          (try go_wp2_with fail)
          refine hK.out _ _ (hS_) (fun hS_ => ?_)
          clear hK K
          (try simp only [Act.put, List.setIfInBounds_toArray, List.set_cons_zero, List.set_cons_succ])
          refine wpAnyH_ready (rs := [23]) (by kernel_rfl) (by simp) (AllReadyH.cons rfl (fun K hK => ?_) AllReadyH.nil)
          go_simp
          (try go_wp2_with fail)
          refine hK.out _ _ (hS_) (fun hS_ => ?_)
          clear hK K
          (try simp only [Act.put, List.setIfInBounds_toArray, List.set_cons_zero, List.set_cons_succ])
          refine wpAnyH_ready (rs := [24]) (by kernel_rfl) (by simp) (AllReadyH.cons rfl (fun K hK => ?_) AllReadyH.nil)
          go_simp
          (try go_wp2_with fail)
          refine hK.out _ _ (hS_) (fun hS_ => ?_)
          clear hK K
          (try simp only [Act.put, List.setIfInBounds_toArray, List.set_cons_zero, List.set_cons_succ])
          refine wpAnyH_done (by kernel_rfl) ?_ _
          go_wp2_with fail
          go_meet
          exact ⟨by simp, hS_⟩
        · subst o2
          have g1 : decide ((I128.enc x).1 < (I128.enc y).1) = false := by simp; omega
          clear o1
          refine wp_region_held_drew (S := (Keeps w [(w.heap.size + 2, #[.int .i64 (I128.enc (z)).1, .int .u64 (I128.enc (z)).2]), (w.heap.size + 1, #[.int .i64 (I128.enc (y)).1, .int .u64 (I128.enc (y)).2]), (w.heap.size, #[.int .i64 (I128.enc (x)).1, .int .u64 (I128.enc (x)).2])])) (by kernel_rfl) (K8.drew) (fun hS_ => ?_)
          refine wpAnyH_take (i := 0) (v := .pointer (some ⟨w.heap.size, 0, none⟩)) rfl (by kernel_rfl) (by kernel_rfl) (by kernel_rfl) (fun _ _ _ h => h) (Or.inl ⟨by rfl, by intro w hSw; go_simp⟩) hS_ ?_
          (try simp only [Act.put, List.setIfInBounds_toArray, List.set_cons_zero, List.set_cons_succ])
          refine wpAnyH_take (i := 1) rfl (by kernel_rfl) (by kernel_rfl) (by kernel_rfl) (fun _ _ _ h => h) (yields_load_cell (.int .i64 (I128.enc x).1) (by rfl) (fun wq hq => by have hcq := (Keeps.at2 hq).cells2.1; go_simp)) hS_ ?_
          (try simp only [Act.put, List.setIfInBounds_toArray, List.set_cons_zero, List.set_cons_succ])
          refine wpAnyH_take (i := 3) (v := .pointer (some ⟨w.heap.size + 1, 0, none⟩)) rfl (by kernel_rfl) (by kernel_rfl) (by kernel_rfl) (fun _ _ _ h => h) (Or.inl ⟨by rfl, by intro w hSw; go_simp⟩) hS_ ?_
          (try simp only [Act.put, List.setIfInBounds_toArray, List.set_cons_zero, List.set_cons_succ])
          refine wpAnyH_take (i := 4) rfl (by kernel_rfl) (by kernel_rfl) (by kernel_rfl) (fun _ _ _ h => h) (yields_load_cell (.int .i64 (I128.enc y).1) (by rfl) (fun wq hq => by have hcq := (Keeps.at1 hq).cells2.1; go_simp)) hS_ ?_
          (try simp only [Act.put, List.setIfInBounds_toArray, List.set_cons_zero, List.set_cons_succ])
          refine wpAnyH_take (i := 8) (v := .pointer (some ⟨w.heap.size, 0, none⟩)) rfl (by kernel_rfl) (by kernel_rfl) (by kernel_rfl) (fun _ _ _ h => h) (Or.inl ⟨by rfl, by intro w hSw; go_simp⟩) hS_ ?_
          (try simp only [Act.put, List.setIfInBounds_toArray, List.set_cons_zero, List.set_cons_succ])
          refine wpAnyH_take (i := 9) rfl (by kernel_rfl) (by kernel_rfl) (by kernel_rfl) (fun _ _ _ h => h) (yields_load_cell (.int .i64 (I128.enc x).1) (by rfl) (fun wq hq => by have hcq := (Keeps.at2 hq).cells2.1; go_simp)) hS_ ?_
          (try simp only [Act.put, List.setIfInBounds_toArray, List.set_cons_zero, List.set_cons_succ])
          refine wpAnyH_take (i := 10) (v := .pointer (some ⟨w.heap.size + 1, 0, none⟩)) rfl (by kernel_rfl) (by kernel_rfl) (by kernel_rfl) (fun _ _ _ h => h) (Or.inl ⟨by rfl, by intro w hSw; go_simp⟩) hS_ ?_
          (try simp only [Act.put, List.setIfInBounds_toArray, List.set_cons_zero, List.set_cons_succ])
          refine wpAnyH_take (i := 11) rfl (by kernel_rfl) (by kernel_rfl) (by kernel_rfl) (fun _ _ _ h => h) (yields_load_cell (.int .i64 (I128.enc y).1) (by rfl) (fun wq hq => by have hcq := (Keeps.at1 hq).cells2.1; go_simp)) hS_ ?_
          (try simp only [Act.put, List.setIfInBounds_toArray, List.set_cons_zero, List.set_cons_succ])
          refine wpAnyH_take (i := 12) (v := .bool false) rfl (by kernel_rfl) (by kernel_rfl) (by kernel_rfl) (fun _ _ _ h => h) (Or.inl ⟨by rfl, by intro w hSw; go_simp⟩) hS_ ?_
          (try simp only [Act.put, List.setIfInBounds_toArray, List.set_cons_zero, List.set_cons_succ])
          refine wpAnyH_ready (rs := [2]) (by kernel_rfl) (by simp) (AllReadyH.cons rfl (fun K hK => ?_) AllReadyH.nil)
          go_simp
          refine (kox _).mono ?_
          rintro e v10_2 ⟨rfl, bn⟩
          (try go_wp2_with fail)
          refine hK.out _ _ (Keeps.next hS_ bn) (fun hS_ => ?_)
          clear hK K bn
          (try simp only [Act.put, List.setIfInBounds_toArray, List.set_cons_zero, List.set_cons_succ])
          refine wpAnyH_ready (rs := [5]) (by kernel_rfl) (by simp) (AllReadyH.cons rfl (fun K hK => ?_) AllReadyH.nil)
          go_simp
          refine (koy _).mono ?_
          rintro e v10_5 ⟨rfl, bn⟩
          (try go_wp2_with fail)
          refine hK.out _ _ (Keeps.next hS_ bn) (fun hS_ => ?_)
          clear hK K bn
          (try simp only [Act.put, List.setIfInBounds_toArray, List.set_cons_zero, List.set_cons_succ])
          refine wpAnyH_ready (rs := [6]) (by kernel_rfl) (by simp) (AllReadyH.cons rfl (fun K hK => ?_) AllReadyH.nil)
          go_simp
          refine (kv _).mono ?_
          rintro e v10_6 ⟨rfl, bn⟩
          (try go_wp2_with fail)
          refine hK.out _ _ (Keeps.next hS_ bn) (fun hS_ => ?_)
          clear hK K bn
          (try simp only [Act.put, List.setIfInBounds_toArray, List.set_cons_zero, List.set_cons_succ])
          refine wpAnyH_ready (rs := [7]) (by kernel_rfl) (by simp) (AllReadyH.cons rfl (fun K hK => ?_) AllReadyH.nil)
          go_simp
          (try go_wp2_with fail)
          refine hK.out _ _ (hS_) (fun hS_ => ?_)
          clear hK K
          (try simp only [Act.put, List.setIfInBounds_toArray, List.set_cons_zero, List.set_cons_succ])
          refine wpAnyH_ready (rs := [13]) (by kernel_rfl) (by simp) (AllReadyH.cons rfl (fun K hK => ?_) AllReadyH.nil)
          go_simp
          (try go_wp2_with fail)
          refine hK.out _ _ (hS_) (fun hS_ => ?_)
          clear hK K
          (try simp only [Act.put, List.setIfInBounds_toArray, List.set_cons_zero, List.set_cons_succ])
          refine wpAnyH_ready (rs := [14]) (by kernel_rfl) (by simp) (AllReadyH.cons rfl (fun K hK => ?_) AllReadyH.nil)
          go_simp
          (try go_wp2_with fail)
          refine hK.out _ _ (hS_) (fun hS_ => ?_)
          clear hK K
          (try simp only [Act.put, List.setIfInBounds_toArray, List.set_cons_zero, List.set_cons_succ])
          refine wpAnyH_take (i := 15) (v := .pointer (some ⟨w.heap.size, 0, none⟩)) rfl (by kernel_rfl) (by kernel_rfl) (by kernel_rfl) (fun _ _ _ h => h) (Or.inl ⟨by rfl, by intro w hSw; go_simp⟩) hS_ ?_
          (try simp only [Act.put, List.setIfInBounds_toArray, List.set_cons_zero, List.set_cons_succ])
          refine wpAnyH_take (i := 16) rfl (by kernel_rfl) (by kernel_rfl) (by kernel_rfl) (fun _ _ _ h => h) (yields_load_cell (.int .i64 (I128.enc x).1) (by rfl) (fun wq hq => by have hcq := (Keeps.at2 hq).cells2.1; go_simp)) hS_ ?_
          (try simp only [Act.put, List.setIfInBounds_toArray, List.set_cons_zero, List.set_cons_succ])
          refine wpAnyH_ready (rs := [17]) (by kernel_rfl) (by simp) (AllReadyH.cons rfl (fun K hK => ?_) AllReadyH.nil)
          go_simp
          (try go_wp2_with fail)
          refine hK.out _ _ (hS_) (fun hS_ => ?_)
          clear hK K
          (try simp only [Act.put, List.setIfInBounds_toArray, List.set_cons_zero, List.set_cons_succ])
          refine wpAnyH_take (i := 18) rfl (by kernel_rfl) (by kernel_rfl) (by kernel_rfl) (fun _ _ _ h => h) (yields_load_cell (.int .i64 (I128.enc y).1) (by rfl) (fun wq hq => by have hcq := (Keeps.at1 hq).cells2.1; go_simp)) hS_ ?_
          (try simp only [Act.put, List.setIfInBounds_toArray, List.set_cons_zero, List.set_cons_succ])
          refine wpAnyH_ready (rs := [19]) (by kernel_rfl) (by simp) (AllReadyH.cons rfl (fun K hK => ?_) AllReadyH.nil)
          go_simp
          (try go_wp2_with fail)
          refine hK.out _ _ (hS_) (fun hS_ => ?_)
          clear hK K
          (try simp only [Act.put, List.setIfInBounds_toArray, List.set_cons_zero, List.set_cons_succ])
          refine wpAnyH_ready (rs := [20]) (by kernel_rfl) (by simp) (AllReadyH.cons rfl (fun K hK => ?_) AllReadyH.nil)
          go_simp
          (try go_wp2_with fail)
          refine hK.out _ _ (hS_) (fun hS_ => ?_)
          clear hK K
          (try simp only [Act.put, List.setIfInBounds_toArray, List.set_cons_zero, List.set_cons_succ])
          refine wpAnyH_ready (rs := [21]) (by kernel_rfl) (by simp) (AllReadyH.cons rfl (fun K hK => ?_) AllReadyH.nil)
          go_simp
          (try go_wp2_with fail)
          refine hK.out _ _ (hS_) (fun hS_ => ?_)
          clear hK K
          (try simp only [Act.put, List.setIfInBounds_toArray, List.set_cons_zero, List.set_cons_succ])
          refine wpAnyH_ready (rs := [22]) (by kernel_rfl) (by simp) (AllReadyH.cons rfl (fun K hK => ?_) AllReadyH.nil)
          go_simp
          (try go_wp2_with fail)
          refine hK.out _ _ (hS_) (fun hS_ => ?_)
          clear hK K
          (try simp only [Act.put, List.setIfInBounds_toArray, List.set_cons_zero, List.set_cons_succ])
          refine wpAnyH_ready (rs := [23]) (by kernel_rfl) (by simp) (AllReadyH.cons rfl (fun K hK => ?_) AllReadyH.nil)
          go_simp
          (try go_wp2_with fail)
          refine hK.out _ _ (hS_) (fun hS_ => ?_)
          clear hK K
          (try simp only [Act.put, List.setIfInBounds_toArray, List.set_cons_zero, List.set_cons_succ])
          refine wpAnyH_ready (rs := [24]) (by kernel_rfl) (by simp) (AllReadyH.cons rfl (fun K hK => ?_) AllReadyH.nil)
          go_simp
          (try go_wp2_with fail)
          refine hK.out _ _ (hS_) (fun hS_ => ?_)
          clear hK K
          (try simp only [Act.put, List.setIfInBounds_toArray, List.set_cons_zero, List.set_cons_succ])
          refine wpAnyH_done (by kernel_rfl) ?_ _
          go_wp2_with fail
          go_meet
          exact ⟨by simp, hS_⟩
        · subst o2
          have g1 : decide ((I128.enc x).1 < (I128.enc y).1) = false := by simp; omega
          clear o1
          refine wp_region_held_drew (S := (Keeps w [(w.heap.size + 2, #[.int .i64 (I128.enc (z)).1, .int .u64 (I128.enc (z)).2]), (w.heap.size + 1, #[.int .i64 (I128.enc (y)).1, .int .u64 (I128.enc (y)).2]), (w.heap.size, #[.int .i64 (I128.enc (x)).1, .int .u64 (I128.enc (x)).2])])) (by kernel_rfl) (K8.drew) (fun hS_ => ?_)
          refine wpAnyH_take (i := 0) (v := .pointer (some ⟨w.heap.size, 0, none⟩)) rfl (by kernel_rfl) (by kernel_rfl) (by kernel_rfl) (fun _ _ _ h => h) (Or.inl ⟨by rfl, by intro w hSw; go_simp⟩) hS_ ?_
          (try simp only [Act.put, List.setIfInBounds_toArray, List.set_cons_zero, List.set_cons_succ])
          refine wpAnyH_take (i := 1) rfl (by kernel_rfl) (by kernel_rfl) (by kernel_rfl) (fun _ _ _ h => h) (yields_load_cell (.int .i64 (I128.enc x).1) (by rfl) (fun wq hq => by have hcq := (Keeps.at2 hq).cells2.1; go_simp)) hS_ ?_
          (try simp only [Act.put, List.setIfInBounds_toArray, List.set_cons_zero, List.set_cons_succ])
          refine wpAnyH_take (i := 3) (v := .pointer (some ⟨w.heap.size + 1, 0, none⟩)) rfl (by kernel_rfl) (by kernel_rfl) (by kernel_rfl) (fun _ _ _ h => h) (Or.inl ⟨by rfl, by intro w hSw; go_simp⟩) hS_ ?_
          (try simp only [Act.put, List.setIfInBounds_toArray, List.set_cons_zero, List.set_cons_succ])
          refine wpAnyH_take (i := 4) rfl (by kernel_rfl) (by kernel_rfl) (by kernel_rfl) (fun _ _ _ h => h) (yields_load_cell (.int .i64 (I128.enc y).1) (by rfl) (fun wq hq => by have hcq := (Keeps.at1 hq).cells2.1; go_simp)) hS_ ?_
          (try simp only [Act.put, List.setIfInBounds_toArray, List.set_cons_zero, List.set_cons_succ])
          refine wpAnyH_take (i := 8) (v := .pointer (some ⟨w.heap.size, 0, none⟩)) rfl (by kernel_rfl) (by kernel_rfl) (by kernel_rfl) (fun _ _ _ h => h) (Or.inl ⟨by rfl, by intro w hSw; go_simp⟩) hS_ ?_
          (try simp only [Act.put, List.setIfInBounds_toArray, List.set_cons_zero, List.set_cons_succ])
          refine wpAnyH_take (i := 9) rfl (by kernel_rfl) (by kernel_rfl) (by kernel_rfl) (fun _ _ _ h => h) (yields_load_cell (.int .i64 (I128.enc x).1) (by rfl) (fun wq hq => by have hcq := (Keeps.at2 hq).cells2.1; go_simp)) hS_ ?_
          (try simp only [Act.put, List.setIfInBounds_toArray, List.set_cons_zero, List.set_cons_succ])
          refine wpAnyH_take (i := 10) (v := .pointer (some ⟨w.heap.size + 1, 0, none⟩)) rfl (by kernel_rfl) (by kernel_rfl) (by kernel_rfl) (fun _ _ _ h => h) (Or.inl ⟨by rfl, by intro w hSw; go_simp⟩) hS_ ?_
          (try simp only [Act.put, List.setIfInBounds_toArray, List.set_cons_zero, List.set_cons_succ])
          refine wpAnyH_take (i := 11) rfl (by kernel_rfl) (by kernel_rfl) (by kernel_rfl) (fun _ _ _ h => h) (yields_load_cell (.int .i64 (I128.enc y).1) (by rfl) (fun wq hq => by have hcq := (Keeps.at1 hq).cells2.1; go_simp)) hS_ ?_
          (try simp only [Act.put, List.setIfInBounds_toArray, List.set_cons_zero, List.set_cons_succ])
          refine wpAnyH_take (i := 12) (v := .bool false) rfl (by kernel_rfl) (by kernel_rfl) (by kernel_rfl) (fun _ _ _ h => h) (Or.inl ⟨by rfl, by intro w hSw; go_simp⟩) hS_ ?_
          (try simp only [Act.put, List.setIfInBounds_toArray, List.set_cons_zero, List.set_cons_succ])
          refine wpAnyH_ready (rs := [2]) (by kernel_rfl) (by simp) (AllReadyH.cons rfl (fun K hK => ?_) AllReadyH.nil)
          go_simp
          refine (kox _).mono ?_
          rintro e v10_2 ⟨rfl, bn⟩
          (try go_wp2_with fail)
          refine hK.out _ _ (Keeps.next hS_ bn) (fun hS_ => ?_)
          clear hK K bn
          (try simp only [Act.put, List.setIfInBounds_toArray, List.set_cons_zero, List.set_cons_succ])
          refine wpAnyH_ready (rs := [5]) (by kernel_rfl) (by simp) (AllReadyH.cons rfl (fun K hK => ?_) AllReadyH.nil)
          go_simp
          refine (koy _).mono ?_
          rintro e v10_5 ⟨rfl, bn⟩
          (try go_wp2_with fail)
          refine hK.out _ _ (Keeps.next hS_ bn) (fun hS_ => ?_)
          clear hK K bn
          (try simp only [Act.put, List.setIfInBounds_toArray, List.set_cons_zero, List.set_cons_succ])
          refine wpAnyH_ready (rs := [6]) (by kernel_rfl) (by simp) (AllReadyH.cons rfl (fun K hK => ?_) AllReadyH.nil)
          go_simp
          refine (kv _).mono ?_
          rintro e v10_6 ⟨rfl, bn⟩
          (try go_wp2_with fail)
          refine hK.out _ _ (Keeps.next hS_ bn) (fun hS_ => ?_)
          clear hK K bn
          (try simp only [Act.put, List.setIfInBounds_toArray, List.set_cons_zero, List.set_cons_succ])
          refine wpAnyH_ready (rs := [7]) (by kernel_rfl) (by simp) (AllReadyH.cons rfl (fun K hK => ?_) AllReadyH.nil)
          go_simp
          (try go_wp2_with fail)
          refine hK.out _ _ (hS_) (fun hS_ => ?_)
          clear hK K
          (try simp only [Act.put, List.setIfInBounds_toArray, List.set_cons_zero, List.set_cons_succ])
          refine wpAnyH_ready (rs := [13]) (by kernel_rfl) (by simp) (AllReadyH.cons rfl (fun K hK => ?_) AllReadyH.nil)
          go_simp
          (try go_wp2_with fail)
          refine hK.out _ _ (hS_) (fun hS_ => ?_)
          clear hK K
          (try simp only [Act.put, List.setIfInBounds_toArray, List.set_cons_zero, List.set_cons_succ])
          refine wpAnyH_ready (rs := [14]) (by kernel_rfl) (by simp) (AllReadyH.cons rfl (fun K hK => ?_) AllReadyH.nil)
          go_simp
          (try go_wp2_with fail)
          refine hK.out _ _ (hS_) (fun hS_ => ?_)
          clear hK K
          (try simp only [Act.put, List.setIfInBounds_toArray, List.set_cons_zero, List.set_cons_succ])
          refine wpAnyH_take (i := 15) (v := .pointer (some ⟨w.heap.size, 0, none⟩)) rfl (by kernel_rfl) (by kernel_rfl) (by kernel_rfl) (fun _ _ _ h => h) (Or.inl ⟨by rfl, by intro w hSw; go_simp⟩) hS_ ?_
          (try simp only [Act.put, List.setIfInBounds_toArray, List.set_cons_zero, List.set_cons_succ])
          refine wpAnyH_take (i := 16) rfl (by kernel_rfl) (by kernel_rfl) (by kernel_rfl) (fun _ _ _ h => h) (yields_load_cell (.int .i64 (I128.enc x).1) (by rfl) (fun wq hq => by have hcq := (Keeps.at2 hq).cells2.1; go_simp)) hS_ ?_
          (try simp only [Act.put, List.setIfInBounds_toArray, List.set_cons_zero, List.set_cons_succ])
          refine wpAnyH_ready (rs := [17]) (by kernel_rfl) (by simp) (AllReadyH.cons rfl (fun K hK => ?_) AllReadyH.nil)
          go_simp
          (try go_wp2_with fail)
          refine hK.out _ _ (hS_) (fun hS_ => ?_)
          clear hK K
          (try simp only [Act.put, List.setIfInBounds_toArray, List.set_cons_zero, List.set_cons_succ])
          refine wpAnyH_take (i := 18) rfl (by kernel_rfl) (by kernel_rfl) (by kernel_rfl) (fun _ _ _ h => h) (yields_load_cell (.int .i64 (I128.enc y).1) (by rfl) (fun wq hq => by have hcq := (Keeps.at1 hq).cells2.1; go_simp)) hS_ ?_
          (try simp only [Act.put, List.setIfInBounds_toArray, List.set_cons_zero, List.set_cons_succ])
          refine wpAnyH_ready (rs := [19]) (by kernel_rfl) (by simp) (AllReadyH.cons rfl (fun K hK => ?_) AllReadyH.nil)
          go_simp
          (try go_wp2_with fail)
          refine hK.out _ _ (hS_) (fun hS_ => ?_)
          clear hK K
          (try simp only [Act.put, List.setIfInBounds_toArray, List.set_cons_zero, List.set_cons_succ])
          refine wpAnyH_ready (rs := [20]) (by kernel_rfl) (by simp) (AllReadyH.cons rfl (fun K hK => ?_) AllReadyH.nil)
          go_simp
          (try go_wp2_with fail)
          refine hK.out _ _ (hS_) (fun hS_ => ?_)
          clear hK K
          (try simp only [Act.put, List.setIfInBounds_toArray, List.set_cons_zero, List.set_cons_succ])
          refine wpAnyH_ready (rs := [21]) (by kernel_rfl) (by simp) (AllReadyH.cons rfl (fun K hK => ?_) AllReadyH.nil)
          go_simp
          (try go_wp2_with fail)
          refine hK.out _ _ (hS_) (fun hS_ => ?_)
          clear hK K
          (try simp only [Act.put, List.setIfInBounds_toArray, List.set_cons_zero, List.set_cons_succ])
          refine wpAnyH_ready (rs := [22]) (by kernel_rfl) (by simp) (AllReadyH.cons rfl (fun K hK => ?_) AllReadyH.nil)
          go_simp
          (try go_wp2_with fail)
          refine hK.out _ _ (hS_) (fun hS_ => ?_)
          clear hK K
          (try simp only [Act.put, List.setIfInBounds_toArray, List.set_cons_zero, List.set_cons_succ])
          refine wpAnyH_ready (rs := [23]) (by kernel_rfl) (by simp) (AllReadyH.cons rfl (fun K hK => ?_) AllReadyH.nil)
          go_simp
          (try go_wp2_with fail)
          refine hK.out _ _ (hS_) (fun hS_ => ?_)
          clear hK K
          (try simp only [Act.put, List.setIfInBounds_toArray, List.set_cons_zero, List.set_cons_succ])
          refine wpAnyH_ready (rs := [24]) (by kernel_rfl) (by simp) (AllReadyH.cons rfl (fun K hK => ?_) AllReadyH.nil)
          go_simp
          (try go_wp2_with fail)
          refine hK.out _ _ (hS_) (fun hS_ => ?_)
          clear hK K
          (try simp only [Act.put, List.setIfInBounds_toArray, List.set_cons_zero, List.set_cons_succ])
          refine wpAnyH_done (by kernel_rfl) ?_ _
          go_wp2_with fail
          go_meet
          exact ⟨by simp, hS_⟩
      case rest =>
        obtain ⟨rfl, K9⟩ := hcut
        go_wp2_with (first | (refine load_blk rfl 25 (.tmp 3) rfl _ rfl (Keeps.at2 K9) Try.underlying25 rfl (by kernel_rfl) ?_) | (refine load_blk rfl 25 (.tmp 4) rfl _ rfl (Keeps.at1 K9) Try.underlying25 rfl (by kernel_rfl) ?_) | (refine load_blk rfl 25 (.tmp 5) rfl _ rfl (Keeps.at0 K9) Try.underlying25 rfl (by kernel_rfl) ?_))
        refine (kS _).mono ?_
        rintro e w9 ⟨rfl, b9⟩
        have J := (K9.next b9).box rfl #[.int .i64 (I128.enc (x + y)).1, .int .u64 (I128.enc (x + y)).2]
        clear K9 b9
        obtain ⟨u1, e1⟩ : ∃ u, decide (0 ≤ (I128.enc y).1) = u := ⟨_, rfl⟩
        obtain ⟨u2, e2⟩ : ∃ u, decide ((I128.enc x).1 < 0) = u := ⟨_, rfl⟩
        obtain ⟨u3, e3⟩ : ∃ u, decide (0 ≤ (I128.enc (x + y)).1) = u := ⟨_, rfl⟩
        have g : u1 = true → (u2 = true ∨ u3 = true) → decide (c < 0) = false := fun h1 h2 => by subst h1; have := CC.out (by simpa using e1) (by rcases h2 with rfl | rfl; exact .inl (by simpa using e2); exact .inr (by simpa using e3)); simpa using this
        rcases u1 with _ | _ <;> rcases u2 with _ | _ <;> rcases u3 with _ | _
        · clear g
          obtain ⟨c00, c01, c02, c03⟩ := (Keeps.at0 J).cells2
          clear c02 c03
          obtain ⟨c10, c11, c12, c13⟩ := (Keeps.at1 J).cells2
          clear c12 c13
          obtain ⟨c20, c21, c22, c23⟩ := (Keeps.at2 J).cells2
          clear c22 c23
          obtain ⟨c30, c31, c32, c33⟩ := (Keeps.at3 J).cells2
          clear c32 c33
          go_wp2_with fail
          go_ret
          exact ⟨by simp, J.bel⟩
        · clear g
          obtain ⟨c00, c01, c02, c03⟩ := (Keeps.at0 J).cells2
          clear c02 c03
          obtain ⟨c10, c11, c12, c13⟩ := (Keeps.at1 J).cells2
          clear c12 c13
          obtain ⟨c20, c21, c22, c23⟩ := (Keeps.at2 J).cells2
          clear c22 c23
          obtain ⟨c30, c31, c32, c33⟩ := (Keeps.at3 J).cells2
          clear c32 c33
          go_wp2_with fail
          go_ret
          exact ⟨by simp, J.bel⟩
        · clear g
          obtain ⟨c00, c01, c02, c03⟩ := (Keeps.at0 J).cells2
          clear c02 c03
          obtain ⟨c10, c11, c12, c13⟩ := (Keeps.at1 J).cells2
          clear c12 c13
          obtain ⟨c20, c21, c22, c23⟩ := (Keeps.at2 J).cells2
          clear c22 c23
          obtain ⟨c30, c31, c32, c33⟩ := (Keeps.at3 J).cells2
          clear c32 c33
          go_wp2_with fail
          go_ret
          exact ⟨by simp, J.bel⟩
        · clear g
          obtain ⟨c00, c01, c02, c03⟩ := (Keeps.at0 J).cells2
          clear c02 c03
          obtain ⟨c10, c11, c12, c13⟩ := (Keeps.at1 J).cells2
          clear c12 c13
          obtain ⟨c20, c21, c22, c23⟩ := (Keeps.at2 J).cells2
          clear c22 c23
          obtain ⟨c30, c31, c32, c33⟩ := (Keeps.at3 J).cells2
          clear c32 c33
          go_wp2_with fail
          go_ret
          exact ⟨by simp, J.bel⟩
        · clear g
          obtain ⟨c00, c01, c02, c03⟩ := (Keeps.at0 J).cells2
          clear c02 c03
          obtain ⟨c10, c11, c12, c13⟩ := (Keeps.at1 J).cells2
          clear c12 c13
          obtain ⟨c20, c21, c22, c23⟩ := (Keeps.at2 J).cells2
          clear c22 c23
          obtain ⟨c30, c31, c32, c33⟩ := (Keeps.at3 J).cells2
          clear c32 c33
          go_wp2_with fail
          go_ret
          exact ⟨by simp, J.bel⟩
        · have g := g rfl (by simp)
          obtain ⟨c00, c01, c02, c03⟩ := (Keeps.at0 J).cells2
          clear c02 c03
          obtain ⟨c10, c11, c12, c13⟩ := (Keeps.at1 J).cells2
          clear c12 c13
          obtain ⟨c20, c21, c22, c23⟩ := (Keeps.at2 J).cells2
          clear c22 c23
          obtain ⟨c30, c31, c32, c33⟩ := (Keeps.at3 J).cells2
          clear c32 c33
          go_wp2_with fail
          refine (kC _).mono ?_
          rintro e w10 ⟨rfl, b10⟩
          have J2 := J.next b10
          go_wp2_with fail
          go_ret
          exact ⟨by simp, J2.bel⟩
        · have g := g rfl (by simp)
          obtain ⟨c00, c01, c02, c03⟩ := (Keeps.at0 J).cells2
          clear c02 c03
          obtain ⟨c10, c11, c12, c13⟩ := (Keeps.at1 J).cells2
          clear c12 c13
          obtain ⟨c20, c21, c22, c23⟩ := (Keeps.at2 J).cells2
          clear c22 c23
          obtain ⟨c30, c31, c32, c33⟩ := (Keeps.at3 J).cells2
          clear c32 c33
          go_wp2_with fail
          refine (kC _).mono ?_
          rintro e w10 ⟨rfl, b10⟩
          have J2 := J.next b10
          go_wp2_with fail
          go_ret
          exact ⟨by simp, J2.bel⟩
        · have g := g rfl (by simp)
          obtain ⟨c00, c01, c02, c03⟩ := (Keeps.at0 J).cells2
          clear c02 c03
          obtain ⟨c10, c11, c12, c13⟩ := (Keeps.at1 J).cells2
          clear c12 c13
          obtain ⟨c20, c21, c22, c23⟩ := (Keeps.at2 J).cells2
          clear c22 c23
          obtain ⟨c30, c31, c32, c33⟩ := (Keeps.at3 J).cells2
          clear c32 c33
          go_wp2_with fail
          refine (kC _).mono ?_
          rintro e w10 ⟨rfl, b10⟩
          have J2 := J.next b10
          go_wp2_with fail
          go_ret
          exact ⟨by simp, J2.bel⟩
end Go.Proofs.Ytglhfknlemaidaa
