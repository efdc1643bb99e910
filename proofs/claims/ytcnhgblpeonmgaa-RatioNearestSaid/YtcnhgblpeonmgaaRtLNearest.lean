/-
  The law RatioNearest walked: no float is nearer; it rises with the numerator, falls with the denominator.
-/
import Derived.Test.YtcnhgblpeonmgaaRtBet
import Derived.Test.YtcnhgblpeonmgaaRtLBy
import Derived.BigQuiet
namespace Go.Proofs.Ytcnhgblpeonmgaa
open Go.RowKit
set_option linter.unusedVariables false
set_option linter.unusedSimpArgs false
attribute [local go_sem high] binOp_lss64 binOp_gtr64 binOp_geq64 binOp_leq64 binOp_eql64 binOp_neq64 f64bits frombits

/-- What the middles say of the nearest. -/
theorem nr_mid {num den : Nat} (hn0 : 0 < num) (hn : num < 18446744073709551616) (hd0 : 0 < den) (hd : den < 18446744073709551616) :
    (betw (nr num den) num den = -1 ∧ betw (nr num den - 1) num den = 1) ∨
    (nr num den % 2 = 0 ∧ (betw (nr num den) num den = -1 ∨ betw (nr num den) num den = 0) ∧ (betw (nr num den - 1) num den = 1 ∨ betw (nr num den - 1) num den = 0)) := by
  have h := nr_near hn hd0 hd
  have hb := nr_bounds hn0 hn hd0 hd
  have h1 := h.hi
  have h2 := h.lo (by omega)
  have h3 := h.odd
  generalize nr num den = r at *
  have er : r - 1 + 1 = r := by omega
  unfold betw
  rw [er]
  rw [← Nat.mul_assoc] at h1 h2 h3
  have a1 : (den * (val r + val (r + 1)) : Nat) = den * (val r + val (r + 1)) := rfl
  generalize den * (val r + val (r + 1)) = X at *
  generalize den * (val (r - 1) + val r) = Y at *
  generalize 2 * num * S = Z at *
  have two : ∀ a b : Nat, a ≤ b → cmpZ (a : Int) (b : Int) = -1 ∨ cmpZ (a : Int) (b : Int) = 0 ∧ a = b := by
    intro a b h
    rcases Nat.lt_or_eq_of_le h with h | h
    · exact .inl (cmpZ_lt (Int.ofNat_lt.2 h))
    · exact .inr ⟨cmpZ_eq (by rw [h]), h⟩
  have two' : ∀ a b : Nat, b ≤ a → cmpZ (a : Int) (b : Int) = 1 ∨ cmpZ (a : Int) (b : Int) = 0 ∧ a = b := by
    intro a b h
    rcases Nat.lt_or_eq_of_le h with h | h
    · exact .inl (cmpZ_gt (Int.ofNat_lt.2 h))
    · exact .inr ⟨cmpZ_eq (by rw [h]), h.symm⟩
  have hr : r % 2 = 0 ∨ r % 2 = 1 := by omega
  rcases hr with hr | hr
  · right
    refine ⟨hr, ?_, ?_⟩
    · rcases two _ _ h1 with h | h; exact .inl h; exact .inr h.1
    · rcases two' _ _ h2 with h | h; exact .inl h; exact .inr h.1
  · left
    obtain ⟨o1, o2⟩ := h3 hr
    exact ⟨cmpZ_lt (Int.ofNat_lt.2 o2), cmpZ_gt (Int.ofNat_lt.2 o1)⟩

theorem nr_up {num den more : Nat} (hn0 : 0 < num) (hn : more < 18446744073709551616) (hd0 : 0 < den) (hd : den < 18446744073709551616) (h : num < more) : ¬ fLt (nr more den) (nr num den) := by
  have b1 := nr_bounds hn0 (show num < 18446744073709551616 by omega) hd0 hd
  have b2 := nr_bounds (show 0 < more by omega) hn hd0 hd
  have h1 := nr_near (show num < 18446744073709551616 by omega) hd0 hd
  have h2 := nr_near hn hd0 hd
  have hle := near_mono h1 h2 hd0 hd0 (Nat.mul_le_mul_right _ (Nat.mul_le_mul_right _ (by omega)))
  have hl := INF_lit
  rw [fLt_iff (num_small (by omega)) (num_small (by omega)), sv_small (by omega), sv_small (by omega)]
  have := val_le hle
  omega
theorem nr_down {num den less : Nat} (hn0 : 0 < num) (hn : num < 18446744073709551616) (hd0 : 0 < less) (hd : den < 18446744073709551616) (h : less < den) : ¬ fLt (nr num less) (nr num den) := by
  have b1 := nr_bounds hn0 hn (show 0 < den by omega) hd
  have b2 := nr_bounds hn0 hn hd0 (show less < 18446744073709551616 by omega)
  have h1 := nr_near hn (show 0 < den by omega) hd
  have h2 := nr_near hn hd0 (show less < 18446744073709551616 by omega)
  have hle := near_mono h1 h2 (by omega) hd0 (Nat.mul_le_mul_left _ (by omega))
  have hl := INF_lit
  rw [fLt_iff (num_small (by omega)) (num_small (by omega)), sv_small (by omega), sv_small (by omega)]
  have := val_le hle
  omega

set_option maxRecDepth 100000 in
set_option maxHeartbeats 4000000 in
theorem nearest_nat (num den more less : Nat) (h0 : num < 18446744073709551616) (h1 : den < 18446744073709551616) (h2 : more < 18446744073709551616) (h3 : less < 18446744073709551616) (w : World) :
    Calls Try.prog 4 #[.agg #[.int .u64 (num : Int), .int .u64 (den : Int), .int .u64 (more : Int), .int .u64 (less : Int)]] w fun e w' => e = .returned (.bool true) ∧ Below w.heap.size w w' := by
  have N := near_any num den h0 h1
  have fz := f_zero
  by_cases hz : den = 0
  · subst hz
    have e1 : nearF num 0 = 0 := if_pos rfl
    have e2 : nearE 0 = 20 := if_pos rfl
    rw [e1, e2] at N
    rw [show ((0 : Nat) : Int) = 0 from rfl] at *
    clear e1 e2 h0 h1 h2 h3
    go_enter Try.func4, Try.ntmps4
    go_wp2_with fail
    go_big_region
    go_wp2_with fail
    refine (shown_any _).mono ?_
    rintro e w1 ⟨rfl, b1⟩
    have H1 := Lib.hid (below_next (below_new (Below.refl _ _) _).drew b1)
    clear b1
    go_wp2_with fail
    refine (N _).mono ?_
    rintro e w2 ⟨rfl, b2⟩
    have H2 := Lib.hid (below_next H1.out b2)
    clear b2 H1
    go_wp2_with fail
    simp [bodyPost, results, Try.results4, go_sem]
    exact H2.out
  have e1 : nearF num den = nr num den := if_neg hz
  have e2 : nearE den = 0 := if_neg hz
  rw [e1, e2] at N
  have z1 : ((den : Int) == 0) = false := by simp; omega
  by_cases hn0 : num = 0
  · subst hn0
    rw [nr_zero (by omega)] at N
    rw [show ((0 : Nat) : Int) = 0 from rfl] at *
    clear e1 e2 h0 h1 h2 h3
    go_enter Try.func4, Try.ntmps4
    go_wp2_with fail
    go_big_region
    go_wp2_with fail
    refine (shown_any _).mono ?_
    rintro e w1 ⟨rfl, b1⟩
    have H1 := Lib.hid (below_next (below_new (Below.refl _ _) _).drew b1)
    clear b1
    go_wp2_with fail
    refine (N _).mono ?_
    rintro e w2 ⟨rfl, b2⟩
    have H2 := Lib.hid (below_next H1.out b2)
    clear b2 H1
    go_wp2_with fail
    simp [bodyPost, results, Try.results4, go_sem]
    exact H2.out
  have z2 : ((num : Int) == 0) = false := by simp; omega
  have hb := nr_bounds (num := num) (den := den) (by omega) h0 (by omega) h1
  have B1 := between_any (nr num den) num den (by omega) (by omega) h0 (by omega) h1
  have B2 := between_any (nr num den - 1) num den (by omega) (by omega) h0 (by omega) h1
  have M := Lib.hid (nr_mid (num := num) (den := den) (by omega) h0 (by omega) h1)
  have N2 := near_any more den h2 h1
  have N3 := near_any num less h0 h3
  have U := Lib.hid (fun h => nr_up (num := num) (den := den) (more := more) (by omega) h2 (by omega) h1 h)
  have D := Lib.hid (fun h' h => nr_down (num := num) (den := den) (less := less) (by omega) h0 h' h1 h)
  have e5 : nearF more den = nr more den := if_neg hz
  rw [e5, e2] at N2
  have er : nr num den - 1 + 1 = nr num den := by omega
  rw [er] at B2
  have e6 : 0 < less → nearF num less = nr num less ∧ nearE less = 0 := fun h => ⟨if_neg (by omega), if_neg (by omega)⟩
  have E6 := Lib.hid e6
  generalize nearF num less = n3 at *
  generalize nearE less = q3 at *
  generalize betw (nr num den) num den = hi at *
  generalize betw (nr num den - 1) num den = lo at *
  obtain ⟨r, hr⟩ : ∃ r, r = nr num den := ⟨_, rfl⟩
  rw [← hr] at N M B1 B2 U D hb
  obtain ⟨u, hu⟩ : ∃ u, u = r + 1 := ⟨_, rfl⟩
  obtain ⟨d, hd⟩ : ∃ d, d = r - 1 := ⟨_, rfl⟩
  rw [← hu] at B1
  rw [← hd] at B2
  have w1 : IntKind.u64.wrap ((r : Int) + 1) = (u : Int) := by rw [IntKind.wrap_u64]; omega
  have w2 : IntKind.u64.wrap ((r : Int) - 1) = (d : Int) := by rw [IntKind.wrap_u64]; omega
  have z3 : ((r : Int) == 0) = false := by simp; omega
  have hl := INF_lit
  have f1 : fEq r r := (fEq_self r).2 (by rw [rg_small (by omega)]; omega)
  have f2 : ¬ fLe r 0 := by
    rw [fLe_iff (num_small (by omega)) num_nought, sv_nought, sv_small (by omega)]
    have := val_pos (r := r) (by omega)
    omega
  have f3 : ¬ fLt 4895412794951729152 r := by
    rw [fLt_iff num_64 (num_small (by omega)), sv_64, sv_small (by omega)]
    have := val_le hb.2
    rw [val_64] at this
    have := Int.ofNat_le.2 this
    rw [Int.natCast_mul] at this
    omega
  clear hb hl hr hu hd er e1 e2 e5 e6 h0 h1 h2 h3
  go_enter Try.func4, Try.ntmps4
  go_wp2_with fail
  go_big_region
  go_wp2_with fail
  refine (shown_any _).mono ?_
  rintro e w1 ⟨rfl, b1⟩
  have H1 := Lib.hid (below_next (below_new (Below.refl _ _) _).drew b1)
  clear b1
  go_wp2_with fail
  refine (N _).mono ?_
  rintro e w2 ⟨rfl, b2⟩
  have H2 := Lib.hid (below_next H1.out b2)
  clear b2 H1
  go_upto_region 15 with fail
  go_wp2_with fail
  refine (B1 _).mono ?_
  rintro e w3 ⟨rfl, b3⟩
  have H3 := Lib.hid (below_next H2.out b3)
  clear b3 H2
  go_wp2_with fail
  refine (B2 _).mono ?_
  rintro e w4 ⟨rfl, b4⟩
  have H4 := Lib.hid (below_next H3.out b4)
  clear b4 H3
  go_upto_region 17 with fail
  go_cut [116] (fun sx wx => sx = .bool false ∧ w4 = wx)
  case first =>
    rcases M.out with ⟨rfl, rfl⟩ | ⟨hm, rfl | rfl, rfl | rfl⟩
    · go_wp2_with fail
      go_meet
      exact ⟨by simp, rfl⟩
    all_goals
      have hm2 : (r : Int) % 2 = 0 := by omega
      go_wp2_with fail
      go_meet
      exact ⟨by simp, rfl⟩
  case rest =>
    obtain ⟨rfl, rfl⟩ := hcut
    clear B1 B2 M
    by_cases c1 : num < more
    · have k1 : (num : Int) < (more : Int) := by omega
      have g1 := U.out c1
      clear c1
      go_wp2_with fail
      refine (N2 _).mono ?_
      rintro e w5 ⟨rfl, b5⟩
      have H5 := Lib.hid (below_next H4.out b5)
      clear b5 H4
      by_cases c2 : 0 < less
      · have k2 : (0 : Int) < (less : Int) := by omega
        by_cases c3 : less < den
        · have k3 : (less : Int) < (den : Int) := by omega
          have g2 := D.out c2 c3
          obtain ⟨e7, e8⟩ := E6.out c2
          subst e7 e8
          clear c2 c3
          go_wp2_with fail
          refine (N3 _).mono ?_
          rintro e w6 ⟨rfl, b6⟩
          have H6 := Lib.hid (below_next H5.out b6)
          clear b6
          go_wp2_with fail
          simp [bodyPost, results, Try.results4, go_sem]
          exact H6.out
        · have k3 : ¬ (less : Int) < (den : Int) := by omega
          clear c2 c3
          go_wp2_with fail
          simp [bodyPost, results, Try.results4, go_sem]
          exact H5.out
      · have k2 : ¬ (0 : Int) < (less : Int) := by omega
        clear c2
        go_wp2_with fail
        simp [bodyPost, results, Try.results4, go_sem]
        exact H5.out
    · have k1 : ¬ (num : Int) < (more : Int) := by omega
      clear c1 N2
      by_cases c2 : 0 < less
      · have k2 : (0 : Int) < (less : Int) := by omega
        by_cases c3 : less < den
        · have k3 : (less : Int) < (den : Int) := by omega
          have g2 := D.out c2 c3
          obtain ⟨e7, e8⟩ := E6.out c2
          subst e7 e8
          clear c2 c3
          go_wp2_with fail
          refine (N3 _).mono ?_
          rintro e w6 ⟨rfl, b6⟩
          have H6 := Lib.hid (below_next H4.out b6)
          clear b6
          go_wp2_with fail
          simp [bodyPost, results, Try.results4, go_sem]
          exact H6.out
        · have k3 : ¬ (less : Int) < (den : Int) := by omega
          clear c2 c3
          go_wp2_with fail
          simp [bodyPost, results, Try.results4, go_sem]
          exact H4.out
      · have k2 : ¬ (0 : Int) < (less : Int) := by omega
        clear c2
        go_wp2_with fail
        simp [bodyPost, results, Try.results4, go_sem]
        exact H4.out

theorem ratioNearest_walk (x : Int × Int × Int × Int) (hx : u64ok x.1 ∧ u64ok x.2.1 ∧ u64ok x.2.2.1 ∧ u64ok x.2.2.2) (w : World) :
    Calls Try.prog 4 #[.agg #[.int .u64 x.1, .int .u64 x.2.1, .int .u64 x.2.2.1, .int .u64 x.2.2.2]] w fun e w' => e = .returned (.bool true) ∧ Below w.heap.size w w' := by
  obtain ⟨a, b, c, d⟩ := x
  obtain ⟨h0, h1, h2, h3⟩ := hx
  simp only [] at h0 h1 h2 h3 ⊢
  unfold u64ok at h0 h1 h2 h3
  obtain ⟨l0, rfl⟩ := Int.eq_ofNat_of_zero_le h0.1
  obtain ⟨l1, rfl⟩ := Int.eq_ofNat_of_zero_le h1.1
  obtain ⟨l2, rfl⟩ := Int.eq_ofNat_of_zero_le h2.1
  obtain ⟨l3, rfl⟩ := Int.eq_ofNat_of_zero_le h3.1
  exact nearest_nat l0 l1 l2 l3 (by omega) (by omega) (by omega) (by omega) w
end Go.Proofs.Ytcnhgblpeonmgaa
