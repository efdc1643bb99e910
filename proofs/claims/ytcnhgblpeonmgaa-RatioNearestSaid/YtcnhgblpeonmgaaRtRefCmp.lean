/-
  inclineref02.Cmp comes to the order of a float and a fraction.
-/
import Derived.Test.YtcnhgblpeonmgaaRtRefCmpP
import Derived.Test.YtcnhgblpeonmgaaRtCmpA
import Derived.Test.YtcnhgblpeonmgaaRtAlong
namespace Go.Proofs.Ytcnhgblpeonmgaa
open Go.RowKit
set_option linter.unusedVariables false
set_option linter.unusedSimpArgs false
attribute [local go_sem high] binOp_lss64 binOp_gtr64 binOp_geq64 binOp_leq64 binOp_eql64 binOp_neq64 f64bits frombits

theorem sub_self_fin {b : Nat} (h : Fin64 b) : Ieee.double.sub b b = some 0 := by
  have m := sub_exact (a := b) (b := b) (r := 0) h h (Nat.zero_le _) (by rw [Int.sub_self, val_zero]; rfl)
  rw [Int.sub_self] at m
  have : sumNeg (ng b) (!ng b) 0 = false := by unfold sumNeg; cases ng b <;> rfl
  rw [this] at m; exact m
theorem sub_self_bad {b : Nat} (h : INF ≤ rg b) : Ieee.double.sub b b = none := by
  rcases Nat.lt_or_eq_of_le h with h' | h'
  · exact nan_op (op := .sub) (.inr (.inr rfl)) h'
  · unfold Ieee.Format.sub
    rw [read_inf h'.symm]
    cases ng b <;> rfl

theorem refWhole_any (b : Nat) (w : World) : Calls Try.prog 38 #[.float .f64 b] w fun e w' => e = .returned (.bool (decide (rg b < INF))) ∧ Below w.heap.size w w' := by
  by_cases h : rg b < INF
  · rw [decide_eq_true h]
    have f1 : fEq 0 0 := (fEq_self 0).2 (by decide)
    have s1 : ∀ tt W, (binOp .sub tt (.float .f64 b) (.float .f64 b)).run Try.prog W = .ok (.float .f64 0) W := fun tt W => run_float_arith W .sub tt .f64 _ _ _ (sub_self_fin h)
    clear h
    go_enter Try.func38, Try.ntmps38
    go_wp2
    simp [bodyPost, results, Try.results38, go_sem]
    exact Below.refl _ _
  · rw [decide_eq_false h]
    obtain ⟨r, r1, r2, r3⟩ := run_float_nan (P := Try.prog) w .sub b b (.inr (.inr rfl)) (sub_self_bad (by omega))
    have f1 : ¬ fEq r 0 := by unfold fEq; rintro ⟨h1, _⟩; exact not_num r1 h1
    have B : Hid (Below w.heap.size w w.drew) := Lib.hid ((Below.refl _ _).drew)
    clear h r1 r2
    go_enter Try.func38, Try.ntmps38
    go_wp2
    simp [bodyPost, results, Try.results38, go_sem]
    exact B.out

theorem floatToInt_u64' {b n : Nat} (hf : Fin64 b) (h0 : 0 ≤ sv b) (hn : n = val (rg b) / S) (h2 : n < 18446744073709551616) : floatToIntVal .f64 b .u64 = some (n : Int) := by
  unfold floatToIntVal
  have e : (FloatKind.f64.decode b).toInt .zero = some (n : Int) := by
    have := toInt_zero hf
    rw [← hn] at this
    have e2 : sg (ng b) n = (n : Int) := by
      cases hng : ng b
      · rfl
      · have h3 : n = 0 := by
          rw [sv_eq, hng] at h0
          have : val (rg b) = 0 := by simp [sg] at h0; omega
          rw [hn, this, Nat.zero_div]
        rw [h3]; rfl
    rw [e2] at this; exact this
  rw [e]
  have m1 : IntKind.u64.min = 0 := by decide
  have m2 : IntKind.u64.max = 18446744073709551615 := by decide
  show (if IntKind.u64.min ≤ (n : Int) ∧ (n : Int) ≤ IntKind.u64.max then some (n : Int) else none) = some (n : Int)
  rw [m1, m2, if_pos ⟨by omega, by omega⟩]

/-- One round's facts, about the words. -/
theorem RC.words {den : Nat} {c : Int} {tw T r : Nat} (h : RC den c tw T r) : ∃ u, Ieee.double.mul 4611686018427387904 tw = some u ∧
    (fLt 0 tw ↔ 0 < T) ∧ (fLe 4607182418800017408 u ↔ S ≤ 2 * T) ∧ (S ≤ 2 * T → ∃ t, Ieee.double.sub u 4607182418800017408 = some t ∧ TW t (2 * T - S)) ∧ (¬ S ≤ 2 * T → TW u (2 * T)) := by
  obtain ⟨u, h1, h2, h3⟩ := h.hw.dbl
  have hlt := h.hw.lt
  refine ⟨u, h1, ?_, ?_, fun g => TW.one h2 h3 g hlt, fun g => ⟨h2, h3, by omega⟩⟩
  · rw [fLt_iff num_nought h.hw.fin.num, sv_nought, h.hw.sv]; omega
  · rw [fLe_iff (Fin64.num fin_one) h2.num, svn_one, h3]; omega

set_option maxRecDepth 100000 in
set_option maxHeartbeats 2000000 in
theorem refCmp_loop (f num den n : Nat) (hn : num < 18446744073709551616) (hd0 : 0 < den) (hd : den < 18446744073709551616)
    (h0 : 0 ≤ sv f) (h1 : sv f < 18446744073709551616 * (S : Int)) (hf : Fin64 f) (hq : val (rg f) / S = num / den) (w : World) :
    Calls Try.prog 20 #[.float .f64 f, .int .u64 (num : Int), .int .u64 (den : Int)] w fun e w' => e = .returned (.tuple #[.int .i64 (cmpF f num den), .int .i64 0]) ∧ Below w.heap.size w w' := by
  obtain ⟨a1, a2, t, ⟨g, a3, a4⟩, a5⟩ := TW.first hf h0 h1 rfl
  have ST := Lib.hid (RC.start (num := num) hd0 a2 a5 hq)
  have CV0 := floatToInt_u64' hf h0 rfl a1
  generalize val (rg f) / S = m at *
  generalize val (rg f) % S = T0 at *
  have CV := fun W => run_convert_float_int W 24 22 .f64 .u64 f (m : Int) (by kernel_rfl) (by kernel_rfl) CV0 (P := Try.prog)
  have s1 : ∀ tt W, (binOp .sub tt (.float .f64 f) (.float .f64 g)).run Try.prog W = .ok (.float .f64 t) W := fun tt W => run_float_arith W .sub tt .f64 _ _ _ a4
  have FW := refWhole_any f
  rw [decide_eq_true (show rg f < INF from hf)] at FW
  have z1 : ((den : Int) == 0) = false := by simp; omega
  have z3 : (0 : Int) < (den : Int) := by omega
  have q1 : (num : Int) / (den : Int) = (m : Int) := by rw [← Int.natCast_ediv, hq]
  obtain ⟨r0, hr0⟩ : ∃ r0, r0 = num % den := ⟨_, rfl⟩
  have q2 : (num : Int) % (den : Int) = (r0 : Int) := by rw [hr0]; exact (Int.natCast_emod ..).symm
  rw [← hr0] at ST
  have w0 : IntKind.u64.wrap (m : Int) = (m : Int) := by rw [IntKind.wrap_u64]; omega
  have i1 := fLt_iff hf.num num_nought
  have i2 := fLe_iff num_64 hf.num
  rw [sv_nought] at i1
  rw [sv_64] at i2
  have g1 : ¬ fLt f 0 := fun h => by have := i1.1 h; omega
  have g2 : ¬ fLe 4895412794951729152 f := fun h => by have := i2.1 h; omega
  obtain ⟨c, hc⟩ : ∃ c, c = cmpF f num den := ⟨_, rfl⟩
  rw [← hc] at ST ⊢
  clear i1 i2 hc hr0 CV0 a1 a2 a4 a5 h0 h1 hf hq hn
  go_enter Try.func20, Try.ntmps20
  go_wp2_with fail
  refine (FW _).mono ?_
  rintro e w1 ⟨rfl, b1⟩
  have B1 := Lib.hid b1
  clear b1 FW
  go_wp2_with fail
  go_loopw [10, 11] (fun s10 s11 wr => ∃ tw T r : Nat, w1 = wr ∧ s10 = .float .f64 tw ∧ s11 = .int .u64 (r : Int) ∧ Hid (RC den c tw T r)) (fun s10 s11 _ => muT (valOf s10) * 36893488147419103232 + (18446744073709551616 - (intOf s11).toNat))
  case atStart => exact ⟨t, T0, r0, rfl, rfl, by rw [q2], ST⟩
  case round =>
    obtain ⟨tw, T, r, rfl, rfl, rfl, H⟩ := hrel
    clear ST CV q1 q2 g1 g2 s1 a3 w0
    obtain ⟨u, u1, u2, u3, u4, u5⟩ := H.out.words
    have hr := H.out.hr
    have hT := H.out.hw.lt
    have hv := Lib.hid H.out.hw.vl
    have s2 : ∀ tt W, (binOp .mul tt (.float .f64 4611686018427387904) (.float .f64 tw)).run Try.prog W = .ok (.float .f64 u) W := fun tt W => run_float_arith W .mul tt .f64 _ _ _ u1
    have D := double_any r den hr hd
    by_cases hgo : 0 < T ∨ 0 < r
    · have G : fLt 0 tw ∨ (¬ fLt 0 tw ∧ (0 : Int) < (r : Int)) := by
        rcases Nat.eq_zero_or_pos T with h | h
        · exact .inr ⟨fun hh => by have := u2.1 hh; omega, by omega⟩
        · exact .inl (u2.2 h)
      have hgoH := Lib.hid hgo
      clear hgo
      by_cases ha : S ≤ 2 * T
      · obtain ⟨t', t1, t2⟩ := u4 ha
        have s3 : ∀ tt W, (binOp .sub tt (.float .f64 u) (.float .f64 4607182418800017408)).run Try.prog W = .ok (.float .f64 t') W := fun tt W => run_float_arith W .sub tt .f64 _ _ _ t1
        have g3 := u3.2 ha
        by_cases hb : den ≤ 2 * r
        · rw [decide_eq_true hb] at D
          have hmod : 2 * r % den = 2 * r - den := by
            rw [Nat.mod_eq_sub_mod hb, Nat.mod_eq_of_lt (by omega)]
          rw [hmod] at D
          have N := Lib.hid (RC.next H.out (.inl ⟨ha, hb, rfl, rfl⟩) t2)
          have M := Lib.hid (RC.mu (den := den) (T := T) (T' := 2 * T - S) (r := r) (r' := 2 * r - den) hgoH.out hT (.inr rfl) (by omega) (by omega) (fun h => by rw [h] at ha; have := S_pos; omega))
          generalize 2 * r - den = r' at D N M
          clear u1 u2 u3 u4 u5 ha hb t1 t2 hmod hgoH hr hT
          rcases G with G | ⟨G, G'⟩
          · go_wp2_with (go_at_call 29; refine (D _).mono ?_; rintro e w' ⟨rfl, rfl⟩)
            go_roundw
            case rel => exact ⟨t', _, r', trivial, rfl, rfl, N⟩
            case measure => simp only [intOf, valOf, N.out.hw.vl, hv.out, Int.toNat_natCast]; exact M.out
          · go_wp2_with (go_at_call 29; refine (D _).mono ?_; rintro e w' ⟨rfl, rfl⟩)
            go_roundw
            case rel => exact ⟨t', _, r', trivial, rfl, rfl, N⟩
            case measure => simp only [intOf, valOf, N.out.hw.vl, hv.out, Int.toNat_natCast]; exact M.out
        · rw [decide_eq_false hb] at D
          have hc := H.out.over ha hb
          have HC := Lib.hid hc
          generalize 2 * r % den = r' at D
          clear u1 u2 u3 u4 u5 ha hb t1 t2 hgoH hr hT hc
          rcases G with G | ⟨G, G'⟩
          · go_wp2_with (go_at_call 29; refine (D _).mono ?_; rintro e w' ⟨rfl, rfl⟩)
            simp [bodyPost, results, Try.results20, go_sem]
            exact ⟨HC.out.symm, B1.out⟩
          · go_wp2_with (go_at_call 29; refine (D _).mono ?_; rintro e w' ⟨rfl, rfl⟩)
            simp [bodyPost, results, Try.results20, go_sem]
            exact ⟨HC.out.symm, B1.out⟩
      · have t2 := u5 ha
        have g3 : ¬ fLe 4607182418800017408 u := fun h => ha (u3.1 h)
        by_cases hb : den ≤ 2 * r
        · rw [decide_eq_true hb] at D
          have hc := H.out.under ha hb
          have HC := Lib.hid hc
          generalize 2 * r % den = r' at D
          clear u1 u2 u3 u4 u5 ha hb t2 hgoH hr hT hc
          rcases G with G | ⟨G, G'⟩
          · go_wp2_with (go_at_call 29; refine (D _).mono ?_; rintro e w' ⟨rfl, rfl⟩)
            simp [bodyPost, results, Try.results20, go_sem]
            exact ⟨HC.out.symm, B1.out⟩
          · go_wp2_with (go_at_call 29; refine (D _).mono ?_; rintro e w' ⟨rfl, rfl⟩)
            simp [bodyPost, results, Try.results20, go_sem]
            exact ⟨HC.out.symm, B1.out⟩
        · rw [decide_eq_false hb] at D
          have hmod : 2 * r % den = 2 * r := Nat.mod_eq_of_lt (by omega)
          rw [hmod] at D
          have N := Lib.hid (RC.next H.out (.inr ⟨ha, hb, rfl, rfl⟩) t2)
          have M := Lib.hid (RC.mu (den := den) (T := T) (T' := 2 * T) (r := r) (r' := 2 * r) hgoH.out hT (.inl rfl) (by omega) (by omega) (fun h => ⟨by omega, rfl⟩))
          generalize 2 * r = r' at D N M
          clear u1 u2 u3 u4 u5 ha hb t2 hmod hgoH hr hT
          rcases G with G | ⟨G, G'⟩
          · go_wp2_with (go_at_call 29; refine (D _).mono ?_; rintro e w' ⟨rfl, rfl⟩)
            go_roundw
            case rel => exact ⟨u, _, r', trivial, rfl, rfl, N⟩
            case measure => simp only [intOf, valOf, N.out.hw.vl, hv.out, Int.toNat_natCast]; exact M.out
          · go_wp2_with (go_at_call 29; refine (D _).mono ?_; rintro e w' ⟨rfl, rfl⟩)
            go_roundw
            case rel => exact ⟨u, _, r', trivial, rfl, rfl, N⟩
            case measure => simp only [intOf, valOf, N.out.hw.vl, hv.out, Int.toNat_natCast]; exact M.out
    · have hT0 : T = 0 := by omega
      have hr0 : r = 0 := by omega
      have hc := H.out.even hT0 hr0
      have HC := Lib.hid hc
      have g4 : ¬ fLt 0 tw := fun h => by have := u2.1 h; omega
      subst hr0
      clear u1 u2 u3 u4 u5 hc hgo hr hT D hT0
      go_wp2_with fail
      simp [bodyPost, results, Try.results20, go_sem]
      exact ⟨HC.out.symm, B1.out⟩

theorem refCmp_any (b num den : Nat) (hb : b < 18446744073709551616) (hn : num < 18446744073709551616) (hd : den < 18446744073709551616) (w : World) :
    Calls Try.prog 20 #[.float .f64 b, .int .u64 (num : Int), .int .u64 (den : Int)] w fun e w' => e = .returned (.tuple #[.int .i64 (cmpR b num den), .int .i64 (cmpE b den)]) ∧ Below w.heap.size w w' := by
  unfold cmpR cmpE
  by_cases h0 : den = 0
  · subst h0
    rw [show ((0 : Nat) : Int) = 0 from rfl, if_pos (.inl rfl), if_pos rfl]
    go_enter Try.func20, Try.ntmps20
    go_wp2
    simp [bodyPost, results, Try.results20, go_sem]
    exact Below.refl _ _
  have h0' : ¬ (den : Int) = 0 := by omega
  have z1 : ((den : Int) == 0) = false := by simp; omega
  have z3 : (0 : Int) < (den : Int) := by omega
  have FW := refWhole_any b
  by_cases h1 : INF ≤ rg b
  · rw [if_pos (.inr h1), if_neg h0', if_pos h1]
    rw [decide_eq_false (by omega)] at FW
    clear h1 h0'
    go_enter Try.func20, Try.ntmps20
    go_wp2_with fail
    refine (FW _).mono ?_
    rintro e w1 ⟨rfl, b1⟩
    have B1 := Lib.hid b1
    clear b1 FW
    go_wp2_with fail
    simp [bodyPost, results, Try.results20, go_sem]
    exact B1.out
  rw [if_neg (by intro h; exact h.elim h0' h1), if_neg h0', if_neg h1]
  have hf : Fin64 b := by unfold Fin64; omega
  by_cases h2 : sv b < 0
  · rw [decide_eq_true (show rg b < INF from hf)] at FW
    have e : cmpF b num den = -1 := cmpZ_lt (by
      have : sv b * (den : Int) < 0 := Int.mul_neg_of_neg_of_pos h2 (by omega)
      have hnS : 0 ≤ (num : Int) * (S : Int) := Int.mul_nonneg (by omega) (by omega)
      omega)
    rw [e]
    have i1 := fLt_iff hf.num num_nought
    rw [sv_nought] at i1
    have g1 := i1.2 h2
    clear i1 e h0' h1 h2 hf
    go_enter Try.func20, Try.ntmps20
    go_wp2_with fail
    refine (FW _).mono ?_
    rintro e w1 ⟨rfl, b1⟩
    have B1 := Lib.hid b1
    clear b1 FW
    go_wp2_with fail
    simp [bodyPost, results, Try.results20, go_sem]
    exact B1.out
  by_cases h3 : 18446744073709551616 * (S : Int) ≤ sv b
  · rw [decide_eq_true (show rg b < INF from hf)] at FW
    have hS := S_pos
    have e : cmpF b num den = 1 := cmpZ_gt (by
      have hdp : (1 : Int) ≤ (den : Int) := by omega
      have hup : (num : Int) * (S : Int) ≤ 18446744073709551615 * (S : Int) := Int.mul_le_mul_of_nonneg_right (by omega) (by omega)
      have : sv b * 1 ≤ sv b * (den : Int) := Int.mul_le_mul_of_nonneg_left hdp (by omega)
      omega)
    rw [e]
    have i1 := fLt_iff hf.num num_nought
    have i2 := fLe_iff num_64 hf.num
    rw [sv_nought] at i1
    rw [sv_64] at i2
    have g1 : ¬ fLt b 0 := fun h => h2 (i1.1 h)
    have g2 := i2.2 h3
    clear i1 i2 e h0' h1 h2 h3 hf hS
    go_enter Try.func20, Try.ntmps20
    go_wp2_with fail
    refine (FW _).mono ?_
    rintro e w1 ⟨rfl, b1⟩
    have B1 := Lib.hid b1
    clear b1 FW
    go_wp2_with fail
    simp [bodyPost, results, Try.results20, go_sem]
    exact B1.out
  by_cases h4 : val (rg b) / S = num / den
  · exact refCmp_loop b num den 0 hn (by omega) hd (by omega) (by omega) hf h4 w
  obtain ⟨a1, a2, _⟩ := TW.first hf (by omega) (by omega) rfl
  have CV0 := floatToInt_u64' hf (by omega) rfl a1
  have i1 := fLt_iff hf.num num_nought
  have i2 := fLe_iff num_64 hf.num
  rw [sv_nought] at i1
  rw [sv_64] at i2
  have g1 : ¬ fLt b 0 := fun h => h2 (i1.1 h)
  have g2 : ¬ fLe 4895412794951729152 b := fun h => h3 (i2.1 h)
  rw [decide_eq_true (show rg b < INF from hf)] at FW
  have lt := Lib.hid (cmpF_lt (num := num) (den := den) (by omega) a2)
  have gt := Lib.hid (cmpF_gt (num := num) (den := den) (by omega) a2)
  have hqb : num / den ≤ num := Nat.div_le_self ..
  obtain ⟨q, hq⟩ : ∃ q, q = num / den := ⟨_, rfl⟩
  have q1 : (num : Int) / (den : Int) = (q : Int) := by rw [hq]; exact (Int.natCast_ediv ..).symm
  rw [← hq] at h4 lt gt hqb
  generalize val (rg b) / S = m at *
  have CV := fun W => run_convert_float_int W 24 22 .f64 .u64 b (m : Int) (by kernel_rfl) (by kernel_rfl) CV0 (P := Try.prog)
  have w0 : IntKind.u64.wrap (q : Int) = (q : Int) := by rw [IntKind.wrap_u64]; omega
  clear hq i1 i2 CV0 a2 h0' h1 h2 h3 hf h0
  have z5 : ((m : Int) == (q : Int)) = false := by simp; omega
  rcases Nat.lt_or_ge m q with h5 | h5
  · have e := lt.out h5
    rw [e]
    have h5' : (m : Int) < (q : Int) := by omega
    clear lt gt e h4 h5
    go_enter Try.func20, Try.ntmps20
    go_wp2_with fail
    refine (FW _).mono ?_
    rintro e w1 ⟨rfl, b1⟩
    have B1 := Lib.hid b1
    clear b1 FW
    go_wp2_with fail
    simp [bodyPost, results, Try.results20, go_sem]
    exact B1.out
  · have e := gt.out (by omega)
    rw [e]
    have h5' : ¬ (m : Int) < (q : Int) := by omega
    clear lt gt e h4 h5
    go_enter Try.func20, Try.ntmps20
    go_wp2_with fail
    refine (FW _).mono ?_
    rintro e w1 ⟨rfl, b1⟩
    have B1 := Lib.hid b1
    clear b1 FW
    go_wp2_with fail
    simp [bodyPost, results, Try.results20, go_sem]
    exact B1.out
end Go.Proofs.Ytcnhgblpeonmgaa
