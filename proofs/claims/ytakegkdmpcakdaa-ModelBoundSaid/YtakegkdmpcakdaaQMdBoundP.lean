/-
  Plain: the segment of keys is right, and predicts each of them within eps of its place.
-/
import Derived.Test.YtakegkdmpcakdaaQMdNear
namespace Go.Proofs.Ytakegkdmpcakdaa
open Go.RowKit
set_option linter.unusedVariables false
set_option linter.unusedSimpArgs false

section
variable {L : List Int} {eps : Int} {F : Fit}
/-- Its slope is one at most. -/
theorem LineIs.flat (h : LineIs L eps F) : F.low.1 ≤ F.low.2 := by
  rcases h.full.low.is with q | ⟨i, j, hij, hj, hpos, q⟩
  · rw [q]; decide
  · rw [h.keys] at hj q
    have hd : (j : Int) - i ≤ L.getD j 0 - L.getD i 0 := by
      have key : ∀ n, i + n < L.length → (n : Int) ≤ L.getD (i + n) 0 - L.getD i 0 := by
        intro n
        induction n with
        | zero => intro _; simp
        | succ n ih =>
          intro hn
          have := ih (by omega)
          have := getD_lt h.up (i := i + n) (j := i + (n + 1)) (by omega) hn
          omega
      have := key (j - i) (by omega)
      rw [show i + (j - i) = j by omega] at this
      omega
    have e0 := h.e0
    have hd2 : (j : Int) - i - 2 * (eps - 1) ≤ L.getD j 0 - L.getD i 0 := by omega
    obtain ⟨_, e, hp, _⟩ := lowest_low (n := (j : Int) - i - 2 * (eps - 1)) (d := L.getD j 0 - L.getD i 0) (by omega) (by omega)
    rw [← q] at e hp
    generalize L.getD j 0 - L.getD i 0 = d at *
    generalize (j : Int) - i - 2 * (eps - 1) = n at *
    have h2 : n * F.low.2 ≤ d * F.low.2 := Int.mul_le_mul_of_nonneg_right hd2 (Int.le_of_lt hp)
    have h3 : F.low.1 * d ≤ F.low.2 * d := by rw [e, Int.mul_comm F.low.2]; exact h2
    exact Int.le_of_mul_le_mul_right h3 (by omega)
end

theorem nr_flat {p q : Nat} (hp : p < 18446744073709551616) (hq : 0 < q) (hq1 : q < 18446744073709551616) (h : p ≤ q) : nr p q ≤ 4607182418800017408 := by
  refine near_mono (nr_near hp hq hq1) (near_exact 1 4607182418800017408 (by decide)) hq (by decide) ?_
  rw [Nat.mul_one, Nat.mul_one, val_one, Nat.mul_comm S]
  exact Nat.mul_le_mul_right _ h

/-- A float's whole part within bounds. -/
theorem clampI_within {b : Nat} {lo hi N M : Int} (hb : Num64 b) (hl : -9223372036854775808 ≤ N) (hN : N * (S : Int) ≤ sv b) (hM : sv b < (M + 1) * (S : Int)) (hM2 : M < 9223372036854775807) (h1 : lo ≤ hi) (h2 : N ≤ hi) (h3 : lo ≤ M) : N ≤ clampI b lo hi ∧ clampI b lo hi ≤ M := by
  have hS := S_pos
  have hS' : (0 : Int) < S := by omega
  unfold Num64 at hb
  unfold clampI
  have c2 : ¬ sv b < -(9223372036854775808 * (S : Int)) := by
    have : -9223372036854775808 * (S : Int) ≤ N * (S : Int) := Int.mul_le_mul_of_nonneg_right hl (by omega)
    omega
  rw [if_neg (by intro h; rcases h with h | h | h <;> omega)]
  have c3 : ¬ 9223372036854775808 * (S : Int) ≤ sv b := by
    have : (M + 1) * (S : Int) ≤ 9223372036854775808 * (S : Int) := Int.mul_le_mul_of_nonneg_right (by omega) (by omega)
    omega
  rw [if_neg c3]
  have a1 : N ≤ sv b / (S : Int) := by rw [Int.le_ediv_iff_mul_le hS']; exact hN
  have a2 : sv b / (S : Int) < M + 1 := by rw [Int.ediv_lt_iff_lt_mul hS']; exact hM
  omega

theorem wrap_small {n : Int} (h1 : -9223372036854775808 ≤ n) (h2 : n ≤ 9223372036854775807) : wrap64 n = n := by unfold wrap64; omega

/-- The segment of keys. -/
theorem of_right {L : List Int} {eps : Int} {F : Fit} (h : LineIs L eps F) (hU : U64s L) (hn : L.length ≤ 17592186044416) {fr : Int} (h1 : 0 ≤ fr) (h2 : fr ≤ 4294967296 - (L.length : Int)) :
    ∃ s : Sg, ofS L eps fr = (s, 0) ∧ Right s ∧ SgOk s ∧ s.first = L.getD 0 0 ∧ s.fr = fr ∧ s.up = fr + L.length ∧
      ∀ i, i < L.length → fr + i - eps ≤ guess s (L.getD i 0) ∧ guess s (L.getD i 0) ≤ fr + i + eps := by
  obtain ⟨hok, n0, n1⟩ := h.lnOk hU hn (d := 0) (.inl rfl)
  have hfit := h.fits hn
  have hflat := h.flat
  have hden := h.den
  have hlen := h.pos
  have he0 := h.e0; have he1 := h.e1
  have hqok := hok.q
  unfold u64ok at hqok
  simp only [] at hqok
  obtain ⟨p, hp⟩ : ∃ p : Nat, F.low.1 = (p : Int) := ⟨F.low.1.toNat, by omega⟩
  obtain ⟨q, hq⟩ : ∃ q : Nat, F.low.2 = (q : Int) := ⟨F.low.2.toNat, by omega⟩
  obtain ⟨bs, hbs⟩ : ∃ bs, bs = baseOf F.low L (eps - 1) L.length := ⟨_, rfl⟩
  have his := h.is
  rw [← hbs] at hfit his
  rw [hp] at hflat n0 n1
  rw [hq] at hflat hden hqok
  obtain ⟨f1, _, f3, f4⟩ := hfit
  -- the base is small
  have hbase : bs ≤ 4294967296 := by
    obtain ⟨⟨j, hj, hbj⟩, _⟩ := baseOf_max (s := F.low) (L := L) (e := eps - 1) hlen
    have hr := nAtF_range h.e0 (by rw [hp]; omega) h.den h.up h.bears hj
    have : baseAt F.low L (eps - 1) j = j - (eps - 1) - nAtF F.low L j := rfl
    rw [← hbs] at hbj
    omega
  obtain ⟨ib, i1, i2, i3⟩ := ofInt_whole (fr + bs) (by omega)
  have hw : wrap64 (fr + bs) = fr + bs := wrap_small (by omega) (by omega)
  have hofs : ofS L eps fr = (⟨L.getD 0 0, nr p q, ib, fr, fr + L.length⟩, 0) := by
    unfold ofS
    rw [his, hp, hq]
    simp only []
    rw [if_neg (by simp), if_neg (by omega), Int.toNat_natCast, Int.toNat_natCast, hw, i1]
    have : nearF p q = nr p q := if_neg (by omega)
    rw [this]
  have hsl := nr_flat (p := p) (q := q) (by omega) (by omega) (by omega) (by omega)
  have hR : Right ⟨L.getD 0 0, nr p q, ib, fr, fr + L.length⟩ := ⟨h1, by simp only []; omega, by simp only []; omega, by simp only []; omega, i2⟩
  have hib : ib < 18446744073709551616 := by
    rw [← i1]
    show Ieee.double.write (.number (decide (fr + bs < 0)) (fr + bs).natAbs 0) < _
    obtain ⟨q', w1, _⟩ := nearest_int (fr + bs)
    rw [w1]; exact wd_lt (Nat.min_le_right ..)
  have hS0 := hU.getD hlen
  refine ⟨_, hofs, hR, ⟨hS0, by simp only []; omega, hib, by unfold i64ok; simp only []; omega, by unfold i64ok; simp only []; omega⟩, rfl, rfl, rfl, ?_⟩
  intro i hi
  -- where the line is
  have hat : (i : Int) - (eps - 1) ≤ nAtF F.low L i + bs ∧ nAtF F.low L i + bs ≤ i + (eps - 1) := by
    have hr := nAtF_range h.e0 (by rw [hp]; omega) h.den h.up h.bears hi
    unfold fitsB at f1
    rw [if_neg (by
      have := h.g1; have := h.g2
      rintro (g | g | g | g)
      · omega
      · omega
      · exact h.ne g
      · exact g h.up)] at f1
    have := (of_decide_eq_true f1) i hi
    rw [nearAt_iff (by omega) (by omega) (by omega) (by omega)] at this
    exact this
  have hr := nAtF_range h.e0 (by rw [hp]; omega) h.den h.up h.bears hi
  have hki := hU.getD hi
  have hk0 := hU.getD hlen
  unfold u64ok at hki hk0
  have hmono := up_first h.up hi
  obtain ⟨d, hd⟩ : ∃ d : Nat, L.getD i 0 - L.getD 0 0 = (d : Int) := ⟨(L.getD i 0 - L.getD 0 0).toNat, by omega⟩
  have hfl : nAtF F.low L i = (((p * d) / q : Nat) : Int) := by
    unfold nAtF
    rw [hd, hp, hq, ← Int.natCast_mul, Int.natCast_ediv]
  obtain ⟨Fi, hFi⟩ : ∃ Fi, Fi = (p * d) / q := ⟨_, rfl⟩
  rw [hfl, ← hFi] at hat hr
  have hF1 : Fi * q ≤ p * d := by rw [hFi]; exact Nat.div_mul_le_self ..
  have hF2 : p * d < (Fi + 1) * q := by
    rw [hFi, Nat.add_mul, Nat.one_mul]
    have h3 := Nat.div_add_mod (p * d) q
    have h4 := Nat.mod_lt (p * d) (show 0 < q by omega)
    rw [Nat.mul_comm] at h3
    omega
  -- what is reckoned
  obtain ⟨m, o, m1, m2, m3, m4⟩ := mul_near (nr p q) d (by omega) (by omega)
  obtain ⟨b1, b2⟩ := prod_bounds (p := p) (q := q) (d := d) (by omega) (by omega) (by omega) (by omega) m2 m3
  have hl := INF_lit
  obtain ⟨y, a1, a2⟩ := add_fin (fin_small (r := m) (by omega)) i2
  have hfar : max (L.getD i 0) (L.getD 0 0) - L.getD 0 0 = (d : Int) := by omega
  have halong : alongF (nr p q) (max (L.getD i 0) (L.getD 0 0) - L.getD 0 0) ib = some (wd (sumNeg (ng m) (ng ib) (sv m + sv ib)) (min y INF)) := by
    rw [hfar]; unfold alongF; rw [m1]; exact a1
  obtain ⟨z, hz⟩ : ∃ z, z = wd (sumNeg (ng m) (ng ib) (sv m + sv ib)) (min y INF) := ⟨_, rfl⟩
  have hgF : gF ⟨L.getD 0 0, nr p q, ib, fr, fr + L.length⟩ (L.getD i 0) = z := by
    unfold gF
    simp only []
    rw [halong, hz]; rfl
  have hguess : guess ⟨L.getD 0 0, nr p q, ib, fr, fr + L.length⟩ (L.getD i 0) = clampI z fr (fr + L.length) := by
    unfold guess; rw [if_pos (chk_right.2 hR), hgF]
  have hzn : Num64 z := by rw [hz]; exact num_of (Nat.min_le_right ..)
  rw [hguess]
  have hS := S_pos
  have hH := H_two
  have svm : sv m = (val m : Int) := sv_small (by omega)
  refine clampI_within hzn (by omega) ?_ ?_ (by omega) (by omega) (by omega) (by omega)
  · -- from below
    obtain ⟨r, hr1, hr2⟩ := rung_whole (fr + i - eps) (by omega)
    rw [hz]
    refine round_ge a2 hr1 hr2 ?_
    rw [svm, i3]
    have hlow : (fr + (i : Int) - eps - (fr + bs)) * (S : Int) ≤ (val m : Int) := by
      by_cases hK : fr + (i : Int) - eps - (fr + bs) ≤ 0
      · have : (fr + (i : Int) - eps - (fr + bs)) * (S : Int) ≤ 0 := Int.mul_nonpos_of_nonpos_of_nonneg hK (by omega)
        omega
      · obtain ⟨K, hKK⟩ : ∃ K : Nat, fr + (i : Int) - eps - (fr + bs) = (K : Int) := ⟨(fr + (i : Int) - eps - (fr + bs)).toNat, by omega⟩
        have hle : (K + 1) * q ≤ Fi * q := Nat.mul_le_mul_right _ (by omega)
        have := b1 K (by omega) (Nat.le_trans hle hF1)
        rw [hKK, ← Int.natCast_mul]
        exact Int.ofNat_le.2 this
    have e : (fr + (i : Int) - eps - (fr + bs)) * (S : Int) = (fr + (i : Int) - eps) * (S : Int) - (fr + bs) * (S : Int) := Int.sub_mul ..
    omega
  · -- from above
    obtain ⟨K, hKK⟩ : ∃ K : Nat, (i : Int) + eps - bs = (K : Int) := ⟨((i : Int) + eps - bs).toNat, by omega⟩
    have hup := b2 K (by omega) (Nat.le_trans (Nat.le_of_lt hF2) (Nat.mul_le_mul_right _ (by omega)))
    obtain ⟨r, hr1, hr2⟩ := rung_half (2 * (fr + i + eps) + 1) (by omega)
    have hle : sv z ≤ (2 * (fr + i + eps) + 1) * (H : Int) := by
      rw [hz]
      refine round_le a2 hr1 hr2 ?_
      rw [svm, i3]
      have h5 := Int.ofNat_le.2 hup
      rw [Int.natCast_mul] at h5
      have h6 : (((2 * K + 1 : Nat)) : Int) = 2 * (i + eps - bs) + 1 := by omega
      rw [h6] at h5
      have h7 : (S : Int) = 2 * (H : Int) := by omega
      rw [h7]
      have e1 : (fr + bs) * (2 * (H : Int)) = (2 * (fr + bs)) * (H : Int) := by rw [← Int.mul_assoc, Int.mul_comm (fr + bs) 2]
      have e2 : (2 * ((i : Int) + eps - bs) + 1) * (H : Int) + (2 * (fr + bs)) * (H : Int) = (2 * (fr + i + eps) + 1) * (H : Int) := by
        rw [← Int.add_mul]; congr 1; omega
      omega
    have h7 : (S : Int) = 2 * (H : Int) := by omega
    have e3 : (fr + (i : Int) + eps + 1) * (S : Int) = (2 * (fr + i + eps) + 1) * (H : Int) + (H : Int) := by
      rw [h7, ← Int.mul_assoc]
      have : (fr + (i : Int) + eps + 1) * 2 = (2 * (fr + i + eps) + 1) + 1 := by omega
      rw [this, Int.add_mul, Int.one_mul]
    omega

/-- Of tells it, and how far off it is. -/
theorem of_bound {L : List Int} {eps : Int} (he : (lineOf L eps).2 = 0) (hU : U64s L) (hn : L.length ≤ 17592186044416) {fr : Int} (h1 : 0 ≤ fr) (h2 : fr ≤ 4294967296 - (L.length : Int)) :
    ∃ (s : Sg) (W : Int), ofS L eps fr = (s, 0) ∧ Right s ∧ SgOk s ∧ s.first = L.getD 0 0 ∧ s.fr = fr ∧ s.up = fr + L.length ∧ offI s L = (W, 0) ∧ 0 ≤ W ∧ W ≤ eps ∧ worst s L L.length = W ∧ L.Pairwise (· < ·) ∧ 0 < L.length := by
  obtain ⟨F, hF⟩ := lineOf_is he
  obtain ⟨s, s1, s2, s3, s4, s5, s6, s7⟩ := of_right hF hU hn h1 h2
  have hb := worst_bounds s2 L L.length (by rw [s5, s6]; omega)
  refine ⟨s, worst s L L.length, s1, s2, s3, s4, s5, s6, ?_, hb.1, ?_, rfl, hF.up, hF.pos⟩
  · unfold offI
    rw [if_neg (by rw [chk_right.2 s2]; simp), if_neg (by
      rw [s4, s5, s6]
      rintro (g | g | g)
      · omega
      · exact g rfl
      · exact g hF.up)]
  · refine worst_le (by have := hF.g1; omega) fun i hi => ?_
    have := s7 i hi
    rw [s5]
    omega
end Go.Proofs.Ytakegkdmpcakdaa
