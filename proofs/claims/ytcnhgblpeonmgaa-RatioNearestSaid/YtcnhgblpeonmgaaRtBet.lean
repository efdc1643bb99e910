/-
  inclineref02.Between comes to the order of a fraction and the middle of two floats side by side.
-/
import Derived.Test.YtcnhgblpeonmgaaRtBetP
namespace Go.Proofs.Ytcnhgblpeonmgaa
open Go.RowKit
set_option linter.unusedVariables false
set_option linter.unusedSimpArgs false
attribute [local go_sem high] binOp_lss64 binOp_gtr64 binOp_geq64 binOp_leq64 binOp_eql64 binOp_neq64 f64bits frombits

theorem refCmp_at (b num den : Nat) (hb : b < INF) (hn : num < 18446744073709551616) (hd0 : 0 < den) (hd : den < 18446744073709551616) (w : World) :
    Calls Try.prog 20 #[.float .f64 b, .int .u64 (num : Int), .int .u64 (den : Int)] w fun e w' => e = .returned (.tuple #[.int .i64 (cmpF b num den), .int .i64 0]) ∧ Below w.heap.size w w' := by
  have hl := INF_lit
  have h := refCmp_any b num den (by omega) hn hd w
  have hr := rg_small (show b ≤ INF by omega)
  have e1 : cmpR b num den = cmpF b num den := by unfold cmpR; rw [if_neg (by rw [hr]; omega)]
  have e2 : cmpE b den = 0 := by unfold cmpE; rw [if_neg (by omega), if_neg (by rw [hr]; omega)]
  rw [e1, e2] at h; exact h

/-- The last doubling told. -/
def betR (num den r : Nat) : Int := if den ≤ 2 * r then (if 2 * r % den = 0 then 0 else 1) else -1
theorem betR_eq {den r : Nat} (hr : r < den) : cmpZ ((2 * r : Nat) : Int) (den : Int) = betR 0 den r := by
  unfold betR
  by_cases h : den ≤ 2 * r
  · have e : 2 * r % den = 2 * r - den := by rw [Nat.mod_eq_sub_mod h, Nat.mod_eq_of_lt (by omega)]
    rw [if_pos h, e]
    by_cases h2 : 2 * r - den = 0
    · rw [if_pos h2]; exact cmpZ_eq (congrArg _ (by omega))
    · rw [if_neg h2]; exact cmpZ_gt (Int.ofNat_lt.2 (by omega))
  · rw [if_neg h]; exact cmpZ_lt (Int.ofNat_lt.2 (by omega))

set_option maxRecDepth 100000 in
set_option maxHeartbeats 2000000 in
theorem between_any (s num den : Nat) (s1 : 4503599627370496 ≤ s) (s2 : s ≤ 4895412794951729152) (n1 : num < 18446744073709551616) (d0 : 0 < den) (d1 : den < 18446744073709551616) (w : World) :
    Calls Try.prog 16 #[.float .f64 s, .float .f64 ((s + 1 : Nat)), .int .u64 (num : Int), .int .u64 (den : Int)] w fun e w' => e = .returned (.tuple #[.int .i64 (betw s num den), .int .i64 0]) ∧ Below w.heap.size w w' := by
  have hl := INF_lit
  have C1 := refCmp_at s num den (by omega) n1 d0 d1
  have C2 := refCmp_at (s + 1) num den (by omega) n1 d0 d1
  by_cases h1 : 0 ≤ cmpF s num den
  · rw [betw_low (by omega) d0 h1]
    generalize cmpF s num den = c at *
    generalize cmpF (s + 1) num den = d at *
    generalize s + 1 = u at *
    clear s1 s2 hl
    go_enter Try.func16, Try.ntmps16
    go_wp2_with fail
    refine (C1 _).mono ?_
    rintro e w1 ⟨rfl, b1⟩
    have B1 := Lib.hid b1; clear b1
    go_wp2_with fail
    refine (C2 _).mono ?_
    rintro e w2 ⟨rfl, b2⟩
    have B2 := Lib.hid (below_next B1.out b2); clear b2 B1
    go_wp2_with fail
    simp [bodyPost, results, Try.results16, go_sem]
    exact B2.out
  by_cases h2 : cmpF (s + 1) num den ≤ 0
  · rw [betw_high (by omega) d0 h2]
    generalize cmpF s num den = c at *
    generalize cmpF (s + 1) num den = d at *
    generalize s + 1 = u at *
    clear s1 s2 hl
    go_enter Try.func16, Try.ntmps16
    go_wp2_with fail
    refine (C1 _).mono ?_
    rintro e w1 ⟨rfl, b1⟩
    have B1 := Lib.hid b1; clear b1
    go_wp2_with fail
    refine (C2 _).mono ?_
    rintro e w2 ⟨rfl, b2⟩
    have B2 := Lib.hid (below_next B1.out b2); clear b2 B1
    go_wp2_with fail
    simp [bodyPost, results, Try.results16, go_sem]
    exact B2.out
  have HB := Lib.hid (Bet.of s1 s2 n1 d0 d1 h1 h2)
  obtain ⟨q, q1, q2, q3⟩ := HB.out.step
  have U0 : Hid (Un s q 0) := Lib.hid ⟨q2, q3, .inl rfl⟩
  have CV1 : pl s ≥ Q → ∀ W, (convert 24 22 (.float .f64 s)).run Try.prog W = .ok (.int .u64 ((val s / S : Nat) : Int)) W := fun h W =>
    run_convert_float_int W 24 22 .f64 .u64 s _ (by kernel_rfl) (by kernel_rfl) (floatToInt_u64' (fin_small (by omega)) (by rw [sv_small (by omega)]; omega) (by rw [rg_small (by omega)]) (by have := HB.out.whole h rfl; omega)) (P := Try.prog)
  have CV2 : pl s ≥ Q → ∀ W, (convert 24 22 (.float .f64 q)).run Try.prog W = .ok (.int .u64 ((2 ^ pl s / S : Nat) : Int)) W := fun h W =>
    run_convert_float_int W 24 22 .f64 .u64 q _ (by kernel_rfl) (by kernel_rfl) (floatToInt_u64' (fin_small (by omega)) (by rw [sv_small (by omega)]; omega) (by rw [rg_small (by omega), q3]) (by have := HB.out.whole h rfl; omega)) (P := Try.prog)
  have s3 : ∀ tt W, (binOp .sub tt (.float .f64 ((s + 1 : Nat))) (.float .f64 s)).run Try.prog W = .ok (.float .f64 q) W := fun tt W => run_float_arith W .sub tt .f64 _ _ _ q1
  have CV1' := Lib.hid CV1; have CV2' := Lib.hid CV2
  have fine := Lib.hid (fun x => HB.out.fine (x := x))
  obtain ⟨R, hR⟩ : ∃ R, R = betw s num den := ⟨_, rfl⟩
  rw [← hR] at fine ⊢
  have HR0 := Lib.hid hR
  clear hR
  generalize cmpF s num den = c at *
  generalize cmpF (s + 1) num den = d at *
  generalize s + 1 = u at *
  have z3 : (0 : Int) < (den : Int) := by omega
  have z1 : ((den : Int) == 0) = false := by simp; omega
  clear s1 s2 hl q1 q2 q3 CV1 CV2
  go_enter Try.func16, Try.ntmps16
  go_wp2_with fail
  refine (C1 _).mono ?_
  rintro e w1 ⟨rfl, b1⟩
  have B1 := Lib.hid b1; clear b1
  go_wp2_with fail
  refine (C2 _).mono ?_
  rintro e w2 ⟨rfl, b2⟩
  have B2 := Lib.hid (below_next B1.out b2); clear b2 B1 C1 C2
  go_wp2_with fail
  go_loopw [14, 15] (fun s14 s15 wr => ∃ t x : Nat, w2 = wr ∧ s14 = .int .i64 (x : Int) ∧ s15 = .float .f64 t ∧ Hid (Un s t x)) (fun s14 _ _ => (2000 - intOf s14).toNat)
  case atStart => exact ⟨q, 0, rfl, rfl, rfl, U0⟩
  case round =>
    obtain ⟨t, x, rfl, rfl, rfl, U⟩ := hrel
    clear s3 U0
    have hcond := U.out.cond
    by_cases hx : pl s + x < Q
    · have g := hcond.2 hx
      have hx2 : x < 1074 := by have := Q_eq; omega
      obtain ⟨t', t1, t2⟩ := U.out.next hx
      have U2 := Lib.hid t2
      have s4 : ∀ tt W, (binOp .mul tt (.float .f64 t) (.float .f64 4611686018427387904)).run Try.prog W = .ok (.float .f64 t') W := fun tt W => run_float_arith W .mul tt .f64 _ _ _ t1
      have w1 : wrap64 ((x : Int) + 1) = ((x + 1 : Nat) : Int) := by unfold wrap64; omega
      clear hcond hx t1 t2
      go_wp2_with fail
      go_roundw
      case rel => exact ⟨t', x + 1, trivial, by simp, rfl, U2⟩
      case measure => simp only [intOf]; omega
    · have g : ¬ fLt t 4607182418800017408 := fun h => hx (hcond.1 h)
      have hxx := U.out.x
      clear hcond
      by_cases hx0 : x = 0
      · subst hx0
        have hp : Q ≤ pl s := by omega
        obtain ⟨e1, e2, e3, e4, e5⟩ := HB.out.whole hp rfl
        have CV1 := CV1'.out hp
        have CV2 := CV2'.out hp
        have F0 := fine.out 0
        have CO := Lib.hid (fun h hh => HB.out.coarse (h := h) hp hh _ rfl)
        rw [e1] at CV1
        rw [e3] at CV2
        have heq := Lib.hid hp
        have hpq := Lib.hid (show pl s = Q → 2 ^ (pl s - Q) = 1 from fun h => by rw [h, Nat.sub_self])
        obtain ⟨E, hE⟩ : ∃ E, E = 2 ^ (pl s - Q) := ⟨_, rfl⟩
        rw [← hE] at CV1 CV2 e1 e2 e3 e4 e5 hpq
        rcases e5 with e5 | ⟨h, h0, e5⟩
        · have hps : pl s + 0 = Q := by
            have : pl s - Q = 0 := by
              rcases Nat.eq_zero_or_pos (pl s - Q) with h3 | h3
              · exact h3
              · have : 2 ^ 1 ≤ 2 ^ (pl s - Q) := Nat.pow_le_pow_right (by decide) h3
                rw [← hE, e5] at this; omega
            omega
          have F := F0 hps
          rw [Nat.pow_zero, Nat.mul_one, betR_eq (Nat.mod_lt _ d0)] at F
          subst e5
          have FH := Lib.hid F
          have D := double_any (num % den) den (Nat.mod_lt _ d0) d1
          have m2 : (num : Int) % (den : Int) = ((num % den : Nat) : Int) := (Int.natCast_emod ..).symm
          have L := Lib.hid (show num % den < den from Nat.mod_lt _ d0)
          generalize num % den = r at *
          have q2 : (num : Int) / (den : Int) = ((num / den : Nat) : Int) := (Int.natCast_ediv ..).symm
          obtain ⟨k, hk⟩ : ∃ k, k = num / den := ⟨_, rfl⟩
          rw [← hk] at q2
          clear hk
          generalize mg s * 1 = lo at *
          clear F F0 e1 e2 e3 e4 hx hxx hps hE
          by_cases hb : den ≤ 2 * r
          · rw [decide_eq_true hb] at D
            by_cases hz : 2 * r % den = 0
            · have : betR 0 den r = 0 := by unfold betR; rw [if_pos hb, if_pos hz]
              have RR := Lib.hid (FH.out.trans this)
              rw [hz] at D
              clear hb hz this
              go_wp2_with (go_at_call 29; refine (D _).mono ?_; rintro e w' ⟨rfl, rfl⟩)
              simp [bodyPost, results, Try.results16, go_sem]
              exact ⟨RR.out.symm, B2.out⟩
            · have : betR 0 den r = 1 := by unfold betR; rw [if_pos hb, if_neg hz]
              have RR := Lib.hid (FH.out.trans this)
              generalize 2 * r % den = r' at *
              have z5 : ((r' : Int) == 0) = false := by simp; omega
              clear hb hz this
              go_wp2_with (go_at_call 29; refine (D _).mono ?_; rintro e w' ⟨rfl, rfl⟩)
              simp [bodyPost, results, Try.results16, go_sem]
              exact ⟨RR.out.symm, B2.out⟩
          · rw [decide_eq_false hb] at D
            have : betR 0 den r = -1 := by unfold betR; rw [if_neg hb]
            have RR := Lib.hid (FH.out.trans this)
            generalize 2 * r % den = r' at *
            clear hb this
            go_wp2_with (go_at_call 29; refine (D _).mono ?_; rintro e w' ⟨rfl, rfl⟩)
            simp [bodyPost, results, Try.results16, go_sem]
            exact ⟨RR.out.symm, B2.out⟩
        · obtain ⟨c1, c2⟩ := CO.out h (by rw [← hE, e5])
          rw [← e5] at c1 c2
          have m2 : (num : Int) % (den : Int) = ((num % den : Nat) : Int) := (Int.natCast_emod ..).symm
          have q2 : (num : Int) / (den : Int) = ((num / den : Nat) : Int) := (Int.natCast_ediv ..).symm
          have hkb : num / den ≤ num := Nat.div_le_self ..
          generalize num % den = r at *
          generalize num / den = k at *
          generalize mg s * E = lo at *
          have z5 : ((E : Int) == 1) = false := by simp; omega
          have w5 : IntKind.u64.wrap ((k : Int) - (lo : Int)) = ((k - lo : Nat) : Int) := by rw [IntKind.wrap_u64]; omega
          have h5 : (E : Int) / 2 = (h : Int) := by omega
          have w6 : IntKind.u64.wrap (k : Int) = (k : Int) := by rw [IntKind.wrap_u64]; omega
          have w7 : IntKind.u64.wrap (h : Int) = (h : Int) := by rw [IntKind.wrap_u64]; omega
          generalize k - lo = dlt at *
          have R1 := Lib.hid (HR0.out.trans c1)
          have hbE := Lib.hid e5
          clear F0 e1 e2 e3 e4 hx hxx hE c1 c2 CO hkb
          by_cases c1 : dlt < h
          · have RR := Lib.hid (R1.out.trans (if_pos c1))
            have z6 : ((dlt : Int) == (h : Int)) = false := by simp; omega
            have z7 : (dlt : Int) < (h : Int) := by omega
            clear c1 h0 e5
            go_wp2_with fail
            simp [bodyPost, results, Try.results16, go_sem]
            exact ⟨RR.out.symm, B2.out⟩
          · have R2 := Lib.hid (R1.out.trans (if_neg c1))
            by_cases c2 : h < dlt
            · have RR := Lib.hid (R2.out.trans (if_pos c2))
              have z6 : ((dlt : Int) == (h : Int)) = false := by simp; omega
              have z7 : ¬ (dlt : Int) < (h : Int) := by omega
              clear c1 h0 c2 e5
              go_wp2_with fail
              simp [bodyPost, results, Try.results16, go_sem]
              exact ⟨RR.out.symm, B2.out⟩
            · have R3 := Lib.hid (R2.out.trans (if_neg c2))
              obtain rfl : dlt = h := by omega
              by_cases c3 : 0 < r
              · have RR := Lib.hid (R3.out.trans (if_pos c3))
                have z7 : (0 : Int) < (r : Int) := by omega
                clear c1 h0 c2 c3 e5
                go_wp2_with fail
                simp [bodyPost, results, Try.results16, go_sem]
                exact ⟨RR.out.symm, B2.out⟩
              · have RR := Lib.hid (R3.out.trans (if_neg c3))
                have z7 : ¬ (0 : Int) < (r : Int) := by omega
                clear c1 h0 c2 c3 e5
                go_wp2_with fail
                simp [bodyPost, results, Try.results16, go_sem]
                exact ⟨RR.out.symm, B2.out⟩
      · have hps : pl s + x = Q := by omega
        have F := fine.out x hps
        rw [betR_eq (Nat.mod_lt _ d0)] at F
        have FH := Lib.hid F
        have hx2 : x ≤ 1074 := by have := Q_eq; omega
        have zx : ((x : Int) == 0) = false := by simp; omega
        have m2 : (num : Int) % (den : Int) = ((num % den : Nat) : Int) := (Int.natCast_emod ..).symm
        have R0 : Hid (num % den = num * 2 ^ 0 % den) := Lib.hid (by rw [Nat.pow_zero, Nat.mul_one])
        generalize num % den = r0 at *
        clear F hx hxx hps hx0
        go_wp2_with fail
        go_loopw [21, 22] (fun s21 s22 wr => ∃ r i : Nat, w2 = wr ∧ s21 = .int .u64 (r : Int) ∧ s22 = .int .i64 (i : Int) ∧ i ≤ x ∧ Hid (r = num * 2 ^ i % den)) (fun _ s22 _ => ((x : Int) - intOf s22).toNat)
        case atStart => exact ⟨r0, 0, rfl, by rw [m2], rfl, Nat.zero_le _, R0⟩
        case round =>
          obtain ⟨r, i, rfl, rfl, rfl, hi, HR⟩ := hrel
          clear R0 m2
          have hr : r < den := by rw [HR.out]; exact Nat.mod_lt _ d0
          have D := double_any r den hr d1
          by_cases hix : i < x
          · have hix' : (i : Int) < (x : Int) := by omega
            have N : Hid (2 * r % den = num * 2 ^ (i + 1) % den) := Lib.hid (by
              rw [HR.out, Nat.pow_succ, ← Nat.mul_assoc, Nat.mul_comm _ 2, Nat.mul_mod_mod])
            have w1 : wrap64 ((i : Int) + 1) = ((i + 1 : Nat) : Int) := by unfold wrap64; omega
            generalize 2 * r % den = r' at *
            generalize decide (den ≤ 2 * r) = bb at *
            clear hr
            go_wp2_with (go_at_call 29; refine (D _).mono ?_; rintro e w' ⟨rfl, rfl⟩)
            go_roundw
            case rel => exact ⟨r', i + 1, trivial, rfl, by simp, by omega, N⟩
            case measure => simp only [intOf]; omega
          · have hix' : ¬ (i : Int) < (x : Int) := by omega
            obtain rfl : i = x := by omega
            have FF := FH.out
            rw [← HR.out] at FF
            have FH2 := Lib.hid FF
            clear FF
            by_cases hb : den ≤ 2 * r
            · rw [decide_eq_true hb] at D
              by_cases hz : 2 * r % den = 0
              · have : betR 0 den r = 0 := by unfold betR; rw [if_pos hb, if_pos hz]
                have RR := Lib.hid (FH2.out.trans this)
                rw [hz] at D
                clear hb hz this hr
                go_wp2_with (go_at_call 29; refine (D _).mono ?_; rintro e w' ⟨rfl, rfl⟩)
                simp [bodyPost, results, Try.results16, go_sem]
                exact ⟨RR.out.symm, B2.out⟩
              · have : betR 0 den r = 1 := by unfold betR; rw [if_pos hb, if_neg hz]
                have RR := Lib.hid (FH2.out.trans this)
                generalize 2 * r % den = r' at *
                have z5 : ((r' : Int) == 0) = false := by simp; omega
                clear hb hz this hr
                go_wp2_with (go_at_call 29; refine (D _).mono ?_; rintro e w' ⟨rfl, rfl⟩)
                simp [bodyPost, results, Try.results16, go_sem]
                exact ⟨RR.out.symm, B2.out⟩
            · rw [decide_eq_false hb] at D
              have : betR 0 den r = -1 := by unfold betR; rw [if_neg hb]
              have RR := Lib.hid (FH2.out.trans this)
              generalize 2 * r % den = r' at *
              clear hb this hr
              go_wp2_with (go_at_call 29; refine (D _).mono ?_; rintro e w' ⟨rfl, rfl⟩)
              simp [bodyPost, results, Try.results16, go_sem]
              exact ⟨RR.out.symm, B2.out⟩
end Go.Proofs.Ytcnhgblpeonmgaa
