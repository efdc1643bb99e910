/-
  The law RatioRises, walked.
-/
import Derived.Test.YtcnhgblpeonmgaaRtMono
import Derived.Test.YtcnhgblpeonmgaaRtLClamp
import Derived.Test.YtcnhgblpeonmgaaRtLBy
namespace Go.Proofs.Ytcnhgblpeonmgaa
open Go.RowKit
set_option linter.unusedVariables false
set_option linter.unusedSimpArgs false
attribute [local go_sem high] binOp_lss64 binOp_gtr64 binOp_geq64 binOp_leq64 binOp_eql64 binOp_neq64 f64bits frombits

theorem clamp_le {a b : Nat} {lo hi : Int} (ha : Num64 a) (hb : Num64 b) (h : sv a ≤ sv b) : clampI a lo hi ≤ clampI b lo hi := by
  rcases Int.lt_or_eq_of_le h with h | h
  · exact clamp_mono ((fLt_iff ha hb).2 h)
  · unfold Num64 at ha hb
    have na : ¬ INF < rg a := by omega
    have nb : ¬ INF < rg b := by omega
    unfold clampI
    rw [h]
    simp only [na, nb]
    exact Int.le_refl _
theorem nearF_le {num den : Nat} (hn : num < 18446744073709551616) (hd0 : 0 < den) (hd : den < 18446744073709551616) : nr num den ≤ 4895412794951729152 := by
  by_cases h : num = 0
  · subst h; rw [nr_zero hd0]; decide
  · exact (nr_bounds (by omega) hn hd0 hd).2
/-- The two calls of Along, and what they hand back. -/
theorem rises_pair (s n n' : Nat) (t : Int) (hs : s ≤ 4895412794951729152) (hnn : n ≤ n') (hn : n' ≤ 18446744073709551615) (h1 : -9223372036854775808 ≤ t) (h2 : t ≤ 9223372036854775807) :
    ∃ a b, (∀ w, Calls Try.prog 23 #[.float .f64 s, .int .u64 (n : Int), .float .f64 (floatOfInt .f64 t)] w fun e w' => e = .returned (.float .f64 a) ∧ Below w.heap.size w w') ∧
      (∀ w, Calls Try.prog 23 #[.float .f64 s, .int .u64 (n' : Int), .float .f64 (floatOfInt .f64 t)] w fun e w' => e = .returned (.float .f64 b) ∧ Below w.heap.size w w') ∧
      fEq a a ∧ fEq b b ∧ fLe a b ∧ ∀ lo hi, clampI a lo hi ≤ clampI b lo hi := by
  obtain ⟨a, b, e1, e2, ha, hb, hab⟩ := along_rises s n n' t hs hnn (by omega) h1 h2
  refine ⟨a, b, fun w => ?_, fun w => ?_, (fEq_iff ha ha).2 rfl, (fEq_iff hb hb).2 rfl, (fLe_iff ha hb).2 hab, fun lo hi => clamp_le ha hb hab⟩
  · refine (along_any s _ n w).mono ?_
    rintro e w' ⟨r, rfl, h, bl⟩
    have h := h.out.2
    rw [e1] at h
    rcases h with h | h
    · cases h; exact ⟨rfl, bl⟩
    · exact absurd h.1 (by simp)
  · refine (along_any s _ n' w).mono ?_
    rintro e w' ⟨r, rfl, h, bl⟩
    have h := h.out.2
    rw [e2] at h
    rcases h with h | h
    · cases h; exact ⟨rfl, bl⟩
    · exact absurd h.1 (by simp)

set_option maxHeartbeats 2000000 in
theorem rises_nat (l0 l1 l2 l3 : Nat) (t : Int) (h0 : l0 < 18446744073709551616) (h1 : l1 < 18446744073709551616) (h2 : l2 < 18446744073709551616) (h3 : l3 < 18446744073709551616) (ht : i64ok t) (w : World) :
    Calls Try.prog 10 #[.agg #[.int .u64 (l0 : Int), .int .u64 (l1 : Int), .int .u64 (l2 : Int), .int .u64 (l3 : Int)], .int .i64 t] w fun e w' => e = .returned (.bool true) ∧ Below w.heap.size w w' := by
  have N := near_any l0 l1 h0 h1
  by_cases hz : l1 = 0
  · subst hz
    have e1 : nearF l0 0 = 0 := if_pos rfl
    have e2 : nearE 0 = 20 := if_pos rfl
    rw [e1, e2] at N
    clear e1 e2 ht h0 h1 h2 h3
    rw [show ((0 : Nat) : Int) = 0 from rfl] at *
    go_enter Try.func10, Try.ntmps10
    go_wp2_with fail
    refine (shown_any _).mono ?_
    rintro e w1 ⟨rfl, b1⟩
    have G1 := (Blk.new w 30 #[.int .u64 (l0 : Int), .int .u64 0, .int .u64 (l2 : Int), .int .u64 (l3 : Int)]).below b1
    have H1 := Lib.hid (below_next (below_new (Below.refl _ _) _) b1)
    have c0 := G1.cell 0
    have c1 := G1.cell 1
    clear b1
    go_wp2_with fail
    refine (N _).mono ?_
    rintro e w2 ⟨rfl, b2⟩
    have G2 := G1.below b2
    have H2 := Lib.hid (below_next H1.out b2)
    clear b2 c0 c1 G1 H1
    have c1 := G2.cell 1
    have c2 := G2.cell 2
    have c3 := G2.cell 3
    go_wp2_with fail
    go_quiet (fail)
    go_wp2_with fail
    simp [bodyPost, results, Try.results10, go_sem]
    exact drewN_below H2.out _
  have z1 : ((l1 : Int) == 0) = false := by simp; omega
  have e1 : nearF l0 l1 = nr l0 l1 := if_neg hz
  have e2 : nearE l1 = 0 := if_neg hz
  rw [e1, e2] at N
  have hs := nearF_le h0 (show 0 < l1 by omega) h1
  generalize nr l0 l1 = s at N hs
  unfold i64ok at ht
  rcases Nat.lt_or_ge l3 l2 with hlt | hge
  · have g1 : (l3 : Int) < (l2 : Int) := by omega
    obtain ⟨a, b, A1, A2, q1, q2, q3, q4⟩ := rises_pair s l3 l2 t hs (by omega) (by omega) ht.1 ht.2
    have C1 := fun f => clamp_any f 0 1099511627776 (by decide) (by decide)
    have q5 := q4 0 1099511627776
    clear q4 e1 e2 ht h0 h1 h2 h3 hz hlt hs
    go_enter Try.func10, Try.ntmps10
    go_wp2_with fail
    refine (shown_any _).mono ?_
    rintro e w1 ⟨rfl, b1⟩
    have G1 := (Blk.new w 30 #[.int .u64 (l0 : Int), .int .u64 (l1 : Int), .int .u64 (l2 : Int), .int .u64 (l3 : Int)]).below b1
    have H1 := Lib.hid (below_next (below_new (Below.refl _ _) _) b1)
    have c0 := G1.cell 0
    have c1 := G1.cell 1
    clear b1
    go_wp2_with fail
    refine (N _).mono ?_
    rintro e w2 ⟨rfl, b2⟩
    have G2 := G1.below b2
    have H2 := Lib.hid (below_next H1.out b2)
    clear b2 c0 c1 G1 H1
    have c1 := G2.cell 1
    have c2 := G2.cell 2
    have c3 := G2.cell 3
    go_wp2_with fail
    go_quiet (fail)
    go_upto_region 12 with (go_at_call 23; refine (A1 _).mono ?_; rintro e w3 ⟨rfl, b3⟩)
    have H3 := Lib.hid (below_next (drewN_below H2.out _) b3)
    clear b3
    go_upto_region 13 with (go_at_call 23; refine (A2 _).mono ?_; rintro e w4 ⟨rfl, b4⟩)
    have H4 := Lib.hid (below_next H3.out b4)
    clear b4
    go_wp2_with (go_at_call 21; refine (C1 _ _).mono ?_; rintro e w' ⟨rfl, rfl⟩)
    simp [bodyPost, results, Try.results10, go_sem]
    exact H4.out
  · have g1 : ¬ ((l3 : Int) < (l2 : Int)) := by omega
    obtain ⟨a, b, A1, A2, q1, q2, q3, q4⟩ := rises_pair s l2 l3 t hs (by omega) (by omega) ht.1 ht.2
    have C1 := fun f => clamp_any f 0 1099511627776 (by decide) (by decide)
    have q5 := q4 0 1099511627776
    clear q4 e1 e2 ht h0 h1 h2 h3 hz hge hs
    go_enter Try.func10, Try.ntmps10
    go_wp2_with fail
    refine (shown_any _).mono ?_
    rintro e w1 ⟨rfl, b1⟩
    have G1 := (Blk.new w 30 #[.int .u64 (l0 : Int), .int .u64 (l1 : Int), .int .u64 (l2 : Int), .int .u64 (l3 : Int)]).below b1
    have H1 := Lib.hid (below_next (below_new (Below.refl _ _) _) b1)
    have c0 := G1.cell 0
    have c1 := G1.cell 1
    clear b1
    go_wp2_with fail
    refine (N _).mono ?_
    rintro e w2 ⟨rfl, b2⟩
    have G2 := G1.below b2
    have H2 := Lib.hid (below_next H1.out b2)
    clear b2 c0 c1 G1 H1
    have c1 := G2.cell 1
    have c2 := G2.cell 2
    have c3 := G2.cell 3
    go_wp2_with fail
    go_quiet (fail)
    go_upto_region 12 with (go_at_call 23; refine (A1 _).mono ?_; rintro e w3 ⟨rfl, b3⟩)
    have H3 := Lib.hid (below_next (drewN_below H2.out _) b3)
    clear b3
    go_upto_region 13 with (go_at_call 23; refine (A2 _).mono ?_; rintro e w4 ⟨rfl, b4⟩)
    have H4 := Lib.hid (below_next H3.out b4)
    clear b4
    go_wp2_with (go_at_call 21; refine (C1 _ _).mono ?_; rintro e w' ⟨rfl, rfl⟩)
    simp [bodyPost, results, Try.results10, go_sem]
    exact H4.out

theorem ratioRises_walk (x : Int × Int × Int × Int) (hx : u64ok x.1 ∧ u64ok x.2.1 ∧ u64ok x.2.2.1 ∧ u64ok x.2.2.2) (t : Int) (ht : i64ok t) (w : World) :
    Calls Try.prog 10 #[.agg #[.int .u64 x.1, .int .u64 x.2.1, .int .u64 x.2.2.1, .int .u64 x.2.2.2], .int .i64 t] w fun e w' => e = .returned (.bool true) ∧ Below w.heap.size w w' := by
  obtain ⟨a, b, c, d⟩ := x
  obtain ⟨h0, h1, h2, h3⟩ := hx
  simp only [] at h0 h1 h2 h3 ⊢
  unfold u64ok at h0 h1 h2 h3
  obtain ⟨l0, rfl⟩ := Int.eq_ofNat_of_zero_le h0.1
  obtain ⟨l1, rfl⟩ := Int.eq_ofNat_of_zero_le h1.1
  obtain ⟨l2, rfl⟩ := Int.eq_ofNat_of_zero_le h2.1
  obtain ⟨l3, rfl⟩ := Int.eq_ofNat_of_zero_le h3.1
  exact rises_nat l0 l1 l2 l3 t (by omega) (by omega) (by omega) (by omega) ht w
end Go.Proofs.Ytcnhgblpeonmgaa
