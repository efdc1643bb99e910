/-
  The law RatioLowest, walked.
-/
import Derived.Test.YtcnhgblpeonmgaaRtShown
namespace Go.Proofs.Ytcnhgblpeonmgaa
open Go.RowKit
set_option linter.unusedVariables false
set_option linter.unusedSimpArgs false
attribute [local go_sem high] binOp_lss64 binOp_gtr64 binOp_geq64 binOp_leq64 binOp_eql64 binOp_neq64 f64bits frombits eqSlope

/-- The nearest float of a fraction in lowest terms is that of the fraction. -/
theorem nr_low {num den g a b : Nat} (hg : num = a * g) (hg2 : den = b * g) (h0 : 0 < den) (hn : num < 18446744073709551616) (hd : den < 18446744073709551616) : nr a b = nr num den := by
  have hb : 0 < b := by rcases Nat.eq_zero_or_pos b with h | h; subst h; omega; exact h
  exact nr_eq hb (near_congr (nr_near hn h0 hd) h0 hb (by rw [hg, hg2]; ac_rfl))

set_option maxHeartbeats 2000000 in
theorem ratioLowest_walk (a : Int) (ha : u64ok a) (b : Int) (hb : u64ok b) (w : World) :
    Calls Try.prog 5 #[.int .u64 a, .int .u64 b] w fun e w' => e = .returned (.bool true) ∧ Below w.heap.size w w' := by
  have L1 := lowest_any a b ha hb
  have L2 := refLowest_any a b ha hb
  unfold u64ok at ha hb
  obtain ⟨num, rfl⟩ := Int.eq_ofNat_of_zero_le ha.1
  obtain ⟨den, rfl⟩ := Int.eq_ofNat_of_zero_le hb.1
  by_cases h0 : den = 0
  · subst h0
    have e : lowV (num : Int) ((0 : Nat) : Int) = .tuple #[.agg #[.int .u64 0, .int .u64 0], .int .i64 20] := by simp [lowV, lowA, lowB, lowE]
    rw [e] at L1 L2
    clear e ha hb
    rw [show ((0 : Nat) : Int) = 0 from rfl] at *
    go_enter Try.func5, Try.ntmps5
    go_wp2_with fail
    refine (shown_any _).mono ?_
    rintro e w1 ⟨rfl, b1⟩
    go_wp2_with fail
    refine (L1 _).mono ?_
    rintro e w2 ⟨rfl, b2⟩
    have H2 := Lib.hid (below_next b1 b2)
    clear b1 b2
    go_wp2_with fail
    refine (L2 _).mono ?_
    rintro e w3 ⟨rfl, b3⟩
    have G3 := (Blk.new w2 36 #[.int .u64 0, .int .u64 0]).below b3
    have H3 := Lib.hid (below_next (below_new H2.out _) b3)
    have c0 := G3.cell 0
    have c1 := G3.cell 1
    have hlt := G3.lt
    clear b3 H2
    go_wp2_with fail
    simp [bodyPost, results, Try.results5, go_sem]
    exact below_new H3.out _
  · obtain ⟨g, hg⟩ : ∃ g, g = Nat.gcd num den := ⟨_, rfl⟩
    have hgp : 0 < g := by rw [hg]; exact Nat.gcd_pos_of_pos_right _ (by omega)
    obtain ⟨x, hx⟩ : g ∣ num := by rw [hg]; exact Nat.gcd_dvd_left ..
    obtain ⟨y, hy⟩ : g ∣ den := by rw [hg]; exact Nat.gcd_dvd_right ..
    rw [Nat.mul_comm] at hx hy
    have hgi : Int.gcd (num : Int) (den : Int) = g := by rw [hg]; rfl
    have hdx : (num : Int) / (g : Int) = (x : Int) := by rw [hx, Int.natCast_mul]; exact Int.mul_ediv_cancel _ (by omega)
    have hdy : (den : Int) / (g : Int) = (y : Int) := by rw [hy, Int.natCast_mul]; exact Int.mul_ediv_cancel _ (by omega)
    have h0' : ¬ (den : Int) = 0 := by omega
    have e : lowV (num : Int) (den : Int) = .tuple #[.agg #[.int .u64 x, .int .u64 y], .int .i64 0] := by
      unfold lowV lowA lowB lowE
      rw [if_neg h0', if_neg h0', if_neg h0', hgi, hdx, hdy]
    rw [e] at L1 L2
    have hy0 : ¬ y = 0 := by intro h; subst h; omega
    have hxn : x ≤ num := by rw [hx]; exact Nat.le_mul_of_pos_right _ hgp
    have hyn : y ≤ den := by rw [hy]; exact Nat.le_mul_of_pos_right _ hgp
    have N1 := near_any num den (by omega) (by omega)
    have N2 := near_any x y (by omega) (by omega)
    have en : nearF x y = nearF num den := by unfold nearF; rw [if_neg h0, if_neg hy0]; exact nr_low hx hy (by omega) (by omega) (by omega)
    have e1 : nearE den = 0 := by unfold nearE; rw [if_neg h0]
    have e2 : nearE y = 0 := by unfold nearE; rw [if_neg hy0]
    rw [e1] at N1
    rw [en, e2] at N2
    generalize nearF num den = f at N1 N2
    clear e ha hb hg hx hy hgi hdx hdy h0 h0' hy0 hxn hyn en e1 e2 hgp
    go_enter Try.func5, Try.ntmps5
    go_wp2_with fail
    refine (shown_any _).mono ?_
    rintro e w1 ⟨rfl, b1⟩
    go_wp2_with fail
    refine (L1 _).mono ?_
    rintro e w2 ⟨rfl, b2⟩
    have H2 := Lib.hid (below_next b1 b2)
    clear b1 b2
    go_wp2_with fail
    refine (L2 _).mono ?_
    rintro e w3 ⟨rfl, b3⟩
    have G3 := (Blk.new w2 36 #[.int .u64 x, .int .u64 y]).below b3
    have H3 := Lib.hid (below_next (below_new H2.out _) b3)
    have K3 := Lib.hid (G3.alloc (.cells #[.int .u64 x, .int .u64 y] 36))
    have c0 := G3.cell 0
    have c1 := G3.cell 1
    have hlt := G3.lt
    clear b3 H2
    go_wp2_with fail
    refine (N1 _).mono ?_
    rintro e w4 ⟨rfl, b4⟩
    have G4 := K3.out.below b4
    have H4 := Lib.hid (below_next (below_new H3.out _) b4)
    clear b4 H3 K3 c0 c1
    have c0 := G4.cell 0
    have c1 := G4.cell 1
    go_wp2_with fail
    refine (N2 _).mono ?_
    rintro e w5 ⟨rfl, b5⟩
    have H5 := Lib.hid (below_next H4.out b5)
    clear b5 H4 G4 c0 c1
    go_wp2_with fail
    simp [bodyPost, results, Try.results5, go_sem]
    exact H5.out
end Go.Proofs.Ytcnhgblpeonmgaa
