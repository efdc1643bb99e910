/-
  Plain: what a right segment predicts does not fall; how far off it is between its keys.
-/
import Derived.Test.YtnccgpdniigekaaQG16
namespace Go.Proofs.Ytnccgpdniigekaa
set_option linter.unusedVariables false
set_option linter.unusedSimpArgs false

theorem sg_sum' {s t : Bool} {x : Int} {q : Nat} (h : Near x.natAbs 1 q) : (0 ≤ x → sv (wd (sumNeg s t x) (min q INF)) = (val (min q INF) : Int)) ∧ (x < 0 → sv (wd (sumNeg s t x) (min q INF)) = -(val (min q INF) : Int)) := by
  have hm : min q INF ≤ INF := Nat.min_le_right ..
  constructor
  · intro hx
    rw [sv_of hm]
    rcases Int.lt_or_eq_of_le hx with h0 | h0
    · unfold sumNeg
      rw [if_neg (by omega), decide_eq_false (by omega)]; rfl
    · have hq : q = 0 := near_unique h (by rw [← h0]; exact near_zero 1) (by decide) (by decide) rfl
      rw [hq, Nat.zero_min, val_zero]
      cases sumNeg s t x <;> rfl
  · intro hx
    rw [sv_of hm]
    unfold sumNeg
    rw [if_neg (by omega), decide_eq_true hx]; rfl
theorem min_le_min_inf {q q' : Nat} (h : q ≤ q') : min q INF ≤ min q' INF := by omega
theorem sum_mono' {s t s' t' : Bool} {x y : Int} {q q' : Nat} (h : Near x.natAbs 1 q) (h' : Near y.natAbs 1 q') (hxy : x ≤ y) : sv (wd (sumNeg s t x) (min q INF)) ≤ sv (wd (sumNeg s' t' y) (min q' INF)) := by
  have a := sg_sum' (s := s) (t := t) h
  have b := sg_sum' (s := s') (t := t') h'
  by_cases hx : 0 ≤ x
  · rw [a.1 hx, b.1 (by omega)]
    have := val_le (min_le_min_inf (near_mono h h' (by decide) (by decide) (by omega)))
    omega
  · rw [a.2 (by omega)]
    by_cases hy : 0 ≤ y
    · rw [b.1 hy]; omega
    · rw [b.2 (by omega)]
      have := val_le (min_le_min_inf (near_mono h' h (by decide) (by decide) (by omega)))
      omega

/-- What is reckoned does not fall. -/
theorem alongF_rises {s t : Nat} (hs : s ≤ 4895412794951729152) (ht : Fin64 t) {n n' : Nat} (hnn : n ≤ n') (hn : n' ≤ 18446744073709551616) {a b : Nat} (ha : alongF s n t = some a) (hb : alongF s n' t = some b) : sv a ≤ sv b := by
  obtain ⟨m, o, m1, m2, m3, m4⟩ := mul_near s n hs (by omega)
  obtain ⟨m', o', m1', m2', m3', m4'⟩ := mul_near s n' hs hn
  have hl := INF_lit
  have ho : o ≤ o' := near_mono m2 m2' (by decide) (by decide) (by rw [Nat.mul_one, Nat.mul_one]; exact Nat.mul_le_mul_right _ hnn)
  have hm : m ≤ m' := near_mono m3 m3' S_pos S_pos (Nat.mul_le_mul_right _ (Nat.mul_le_mul_left _ (val_le ho)))
  obtain ⟨q, a1, a2⟩ := add_fin (fin_small (r := m) (by omega)) ht
  obtain ⟨q', a1', a2'⟩ := add_fin (fin_small (r := m') (by omega)) ht
  unfold alongF at ha hb
  rw [m1] at ha
  rw [m1'] at hb
  have e1 : Ieee.double.add m t = some a := ha
  have e2 : Ieee.double.add m' t = some b := hb
  rw [a1] at e1
  rw [a1'] at e2
  rw [← Option.some.inj e1, ← Option.some.inj e2]
  refine sum_mono' a2 a2' ?_
  rw [sv_small (r := m) (by omega), sv_small (r := m') (by omega)]
  have := val_le hm
  omega
/-- A greater number comes to no less. -/
theorem clampI_le {a b : Nat} {lo hi : Int} (ha : Num64 a) (hb : Num64 b) (h : sv a ≤ sv b) : clampI a lo hi ≤ clampI b lo hi := by
  unfold Num64 at ha hb
  have hS := S_pos
  have hd : sv a / (S : Int) ≤ sv b / (S : Int) := Int.ediv_le_ediv (by omega) (by omega)
  unfold clampI
  by_cases c1 : hi < lo
  · rw [if_pos (.inl c1), if_pos (.inl c1)]; exact Int.le_refl _
  have na : ¬ INF < rg a := by omega
  have nb : ¬ INF < rg b := by omega
  by_cases c2 : sv a < -(9223372036854775808 * (S : Int))
  · rw [if_pos (.inr (.inr c2))]
    by_cases c3 : sv b < -(9223372036854775808 * (S : Int))
    · rw [if_pos (.inr (.inr c3))]; exact Int.le_refl _
    · have Nb : ¬ (hi < lo ∨ INF < rg b ∨ sv b < -(9223372036854775808 * (S : Int))) := by intro h; rcases h with h | h | h; exact c1 h; exact nb h; exact c3 h
      rw [if_neg Nb]
      split <;> omega
  · have c3 : ¬ sv b < -(9223372036854775808 * (S : Int)) := by omega
    have Na : ¬ (hi < lo ∨ INF < rg a ∨ sv a < -(9223372036854775808 * (S : Int))) := by intro h; rcases h with h | h | h; exact c1 h; exact na h; exact c2 h
    have Nb : ¬ (hi < lo ∨ INF < rg b ∨ sv b < -(9223372036854775808 * (S : Int))) := by intro h; rcases h with h | h | h; exact c1 h; exact nb h; exact c3 h
    rw [if_neg Na, if_neg Nb]
    by_cases c4 : 9223372036854775808 * (S : Int) ≤ sv a
    · have c5 : 9223372036854775808 * (S : Int) ≤ sv b := by omega
      rw [if_pos c4, if_pos c5]; exact Int.le_refl _
    · rw [if_neg c4]
      split <;> omega

theorem guess_mono {s : Sg} (h : Right s) (hf : u64ok s.first) {q q' : Int} (hq : u64ok q) (hq' : u64ok q') (hle : q ≤ q') : guess s q ≤ guess s q' := by
  obtain ⟨r, r1, r2, r3⟩ := gF_some h hq hf
  obtain ⟨r', r1', r2', r3'⟩ := gF_some h hq' hf
  unfold guess
  rw [if_pos (chk_right.2 h), if_pos (chk_right.2 h), r3, r3']
  refine clampI_le r2 r2' ?_
  have h4 := h.sl
  unfold u64ok at hq hq' hf
  obtain ⟨n, hn⟩ : ∃ n : Nat, max q s.first - s.first = (n : Int) := ⟨(max q s.first - s.first).toNat, by omega⟩
  obtain ⟨n', hn'⟩ : ∃ n' : Nat, max q' s.first - s.first = (n' : Int) := ⟨(max q' s.first - s.first).toNat, by omega⟩
  rw [hn] at r1
  rw [hn'] at r1'
  exact alongF_rises (by omega) h.ic (n := n) (n' := n') (by omega) (by omega) r1 r1'

/-- Of rising keys those below are the first. -/
theorem belowN_split {L : List Int} (hL : L.Pairwise (· < ·)) (q : Int) {n : Nat} (hn : n ≤ L.length) : (∀ i, i < belowN L q n → L.getD i 0 < q) ∧ (∀ i, belowN L q n ≤ i → i < n → q ≤ L.getD i 0) := by
  induction n with
  | zero => exact ⟨fun i h => by have := belowN_le L q 0; omega, fun i _ h => by omega⟩
  | succ n ih =>
    obtain ⟨h1, h2⟩ := ih (by omega)
    have hle := belowN_le L q n
    unfold belowN
    by_cases c : L.getD n 0 < q
    · rw [if_pos c]
      have hb : belowN L q n = n := by
        rcases Nat.lt_or_ge (belowN L q n) n with h | h
        · have h3 := h2 _ (Nat.le_refl _) h
          have h4 := getD_lt hL h (show n < L.length by omega)
          omega
        · omega
      rw [hb]
      refine ⟨fun i hi => ?_, fun i h3 h4 => by omega⟩
      rcases Nat.lt_or_ge i n with h | h
      · exact h1 i (by omega)
      · obtain rfl : i = n := by omega
        exact c
    · rw [if_neg c, Nat.add_zero]
      refine ⟨h1, fun i h3 h4 => ?_⟩
      rcases Nat.lt_or_ge i n with h | h
      · exact h2 i h3 h
      · obtain rfl : i = n := by omega
        omega

/-- Beside its keys it is off by one more at most. -/
theorem off_beside {s : Sg} (h : Right s) (hf : u64ok s.first) {L : List Int} (hU : U64s L) (hL : L.Pairwise (· < ·)) (hn : (L.length : Int) = s.up - s.fr) {W : Int} (hW0 : 0 ≤ W) (hW : worst s L L.length ≤ W) {q : Int} (hq : u64ok q) :
    guess s q - (s.fr + belowN L q L.length) ≤ W ∧ -(guess s q - (s.fr + belowN L q L.length)) ≤ W + 1 := by
  obtain ⟨h1, h2⟩ := belowN_split hL q (Nat.le_refl L.length)
  have hle := belowN_le L q L.length
  have hw := worst_of hW
  have gi := guess_in h q
  generalize belowN L q L.length = j at *
  constructor
  · rcases Nat.lt_or_ge j L.length with hj | hj
    · have a := guess_mono h hf hq (hU.getD hj) (h2 j (Nat.le_refl _) hj)
      have b := (hw j hj).1
      omega
    · omega
  · rcases Nat.eq_zero_or_pos j with hj | hj
    · omega
    · have a := guess_mono h hf (hU.getD (show j - 1 < L.length by omega)) hq (Int.le_of_lt (h1 (j - 1) (by omega)))
      have b := (hw (j - 1) (by omega)).2
      omega
/-- Of a key it is off by the worst at most, and its rank is its place. -/
theorem off_there {s : Sg} {L : List Int} (hL : L.Pairwise (· < ·)) {W : Int} (hW : worst s L L.length ≤ W) {i : Nat} (hi : i < L.length) :
    belowN L (L.getD i 0) L.length = i ∧ guess s (L.getD i 0) - (s.fr + i) ≤ W ∧ -(guess s (L.getD i 0) - (s.fr + i)) ≤ W := by
  obtain ⟨h1, h2⟩ := belowN_split hL (L.getD i 0) (Nat.le_refl L.length)
  have hle := belowN_le L (L.getD i 0) L.length
  refine ⟨?_, worst_of hW i hi⟩
  rcases Nat.lt_trichotomy (belowN L (L.getD i 0) L.length) i with h | h | h
  · have a := h2 _ (Nat.le_refl _) (by omega)
    have b := getD_lt hL h hi
    omega
  · exact h
  · have := h1 i h; omega
end Go.Proofs.Ytnccgpdniigekaa
/-
  Plain: how far floats lie from what they stand for: a slope by a distance, and a base.
-/
namespace Go.Proofs.Ytnccgpdniigekaa
open Go.RowKit
set_option linter.unusedVariables false
set_option linter.unusedSimpArgs false

/-- A normal rung is within 2^-53 of what it stands for. -/
theorem near_rel {N D r : Nat} (h : Near N D r) (hr : 4503599627370496 ≤ r) :
    9007199254740991 * (D * val r) ≤ 9007199254740992 * N ∧ 9007199254740992 * N ≤ 9007199254740993 * (D * val r) := by
  have hm : 4503599627370496 ≤ mg r := by unfold mg; split <;> omega
  have v1 := val_succ r
  have v0 : val r = val (r - 1) + 2 ^ pl (r - 1) := by
    have := val_succ (r - 1)
    rw [show r - 1 + 1 = r by omega] at this; exact this
  have hp : 2 ^ pl (r - 1) ≤ 2 ^ pl r := Nat.pow_le_pow_right (by decide) (by unfold pl; omega)
  have hu : 4503599627370496 * 2 ^ pl r ≤ val r := by unfold val; exact Nat.mul_le_mul_right _ hm
  generalize 2 ^ pl (r - 1) = a at *
  generalize 2 ^ pl r = b at *
  have lo := h.lo (by omega)
  have hi := h.hi
  rw [v1] at hi
  constructor
  · have e1 : 9007199254740991 * (D * val r) ≤ 4503599627370496 * (D * (val (r - 1) + val r)) := by
      rw [Nat.mul_left_comm, Nat.mul_left_comm 4503599627370496]
      exact Nat.mul_le_mul_left _ (by omega)
    have e2 := Nat.mul_le_mul_left 4503599627370496 lo
    omega
  · have e1 : 4503599627370496 * (D * (val r + (val r + b))) ≤ 9007199254740993 * (D * val r) := by
      rw [Nat.mul_left_comm, Nat.mul_left_comm 9007199254740993]
      exact Nat.mul_le_mul_left _ (by omega)
    have e2 := Nat.mul_le_mul_left 4503599627370496 hi
    omega

/-- A product of two that are near. -/
theorem prod_low {p d q vs vo K S : Nat} (hq : 0 < q) (h1 : 9007199254740992 * (p * S) ≤ 9007199254740993 * (q * vs)) (h2 : 9007199254740992 * (d * S) ≤ 9007199254740993 * (1 * vo)) (hK : (K + 1) * q ≤ p * d) (hb : K ≤ 1125899906842624) : K * (S * S) ≤ vs * vo := by
  have m := Nat.mul_le_mul h1 h2
  have e1 : 9007199254740992 * (p * S) * (9007199254740992 * (d * S)) = 81129638414606681695789005144064 * ((p * d) * (S * S)) := by
    have : (81129638414606681695789005144064 : Nat) = 9007199254740992 * 9007199254740992 := by decide
    rw [this]; ac_rfl
  have e2 : 9007199254740993 * (q * vs) * (9007199254740993 * (1 * vo)) = q * (81129638414606699710187514626049 * (vs * vo)) := by
    have : (81129638414606699710187514626049 : Nat) = 9007199254740993 * 9007199254740993 := by decide
    rw [this, Nat.one_mul]; ac_rfl
  rw [e1, e2] at m
  have h3 : 81129638414606681695789005144064 * (((K + 1) * q) * (S * S)) ≤ 81129638414606681695789005144064 * ((p * d) * (S * S)) := Nat.mul_le_mul_left _ (Nat.mul_le_mul_right _ hK)
  have e3 : 81129638414606681695789005144064 * (((K + 1) * q) * (S * S)) = q * (81129638414606681695789005144064 * ((K + 1) * (S * S))) := by ac_rfl
  rw [e3] at h3
  have h4 : 81129638414606681695789005144064 * ((K + 1) * (S * S)) ≤ 81129638414606699710187514626049 * (vs * vo) := Nat.le_of_mul_le_mul_left (Nat.le_trans h3 m) hq
  generalize S * S = Y at *
  generalize vs * vo = X at *
  have h5 : 81129638414606699710187514626049 * K ≤ 81129638414606681695789005144064 * (K + 1) := by omega
  have h6 : 81129638414606699710187514626049 * K * Y ≤ 81129638414606681695789005144064 * (K + 1) * Y := Nat.mul_le_mul_right _ h5
  rw [Nat.mul_assoc, Nat.mul_assoc] at h6
  exact Nat.le_of_mul_le_mul_left (Nat.le_trans h6 h4) (by decide)
theorem prod_high {p d q vs vo K S : Nat} (hq : 0 < q) (h1 : 9007199254740991 * (q * vs) ≤ 9007199254740992 * (p * S)) (h2 : 9007199254740991 * (1 * vo) ≤ 9007199254740992 * (d * S)) (hK : p * d ≤ K * q) (hb : K ≤ 1125899906842624) : 2 * (vs * vo) ≤ (2 * K + 1) * (S * S) := by
  have m := Nat.mul_le_mul h1 h2
  have e1 : 9007199254740992 * (p * S) * (9007199254740992 * (d * S)) = 81129638414606681695789005144064 * ((p * d) * (S * S)) := by
    have : (81129638414606681695789005144064 : Nat) = 9007199254740992 * 9007199254740992 := by decide
    rw [this]; ac_rfl
  have e2 : 9007199254740991 * (q * vs) * (9007199254740991 * (1 * vo)) = q * (81129638414606663681390495662081 * (vs * vo)) := by
    have : (81129638414606663681390495662081 : Nat) = 9007199254740991 * 9007199254740991 := by decide
    rw [this, Nat.one_mul]; ac_rfl
  rw [e1, e2] at m
  have h3 : 81129638414606681695789005144064 * ((p * d) * (S * S)) ≤ 81129638414606681695789005144064 * ((K * q) * (S * S)) := Nat.mul_le_mul_left _ (Nat.mul_le_mul_right _ hK)
  have e3 : 81129638414606681695789005144064 * ((K * q) * (S * S)) = q * (81129638414606681695789005144064 * (K * (S * S))) := by ac_rfl
  rw [e3] at h3
  have h4 : 81129638414606663681390495662081 * (vs * vo) ≤ 81129638414606681695789005144064 * (K * (S * S)) := Nat.le_of_mul_le_mul_left (Nat.le_trans m h3) hq
  generalize S * S = Y at *
  generalize vs * vo = X at *
  have h5 : 2 * (81129638414606681695789005144064 * K) ≤ 81129638414606663681390495662081 * (2 * K + 1) := by omega
  have h6 : 2 * (81129638414606681695789005144064 * K) * Y ≤ 81129638414606663681390495662081 * (2 * K + 1) * Y := Nat.mul_le_mul_right _ h5
  have e4 : 2 * (81129638414606681695789005144064 * K) * Y = 2 * (81129638414606681695789005144064 * (K * Y)) := by ac_rfl
  rw [e4, Nat.mul_assoc] at h6
  have h7 : 81129638414606663681390495662081 * (2 * X) ≤ 81129638414606663681390495662081 * ((2 * K + 1) * Y) := by omega
  exact Nat.le_of_mul_le_mul_left h7 (by decide)

/-- Rounding does not pass a float. -/
theorem round_ge {s t : Bool} {z : Int} {y : Nat} (h : Near z.natAbs 1 y) {M : Int} {r : Nat} (hr : r ≤ INF) (hM : M.natAbs = val r) (hz : M ≤ z) : M ≤ sv (wd (sumNeg s t z) (min y INF)) := by
  have a := sg_sum' (s := s) (t := t) h
  have ex := near_exact 1 r (by decide)
  rw [Nat.mul_one] at ex
  by_cases h0 : 0 ≤ z
  · rw [a.1 h0]
    by_cases hM0 : M ≤ 0
    · omega
    · have hle : r ≤ y := near_mono ex h (by decide) (by decide) (by omega)
      have := val_le (show r ≤ min y INF by omega)
      omega
  · rw [a.2 (by omega)]
    have hle : y ≤ r := near_mono h ex (by decide) (by decide) (by omega)
    have := val_le (show min y INF ≤ r by omega)
    omega
theorem round_le {s t : Bool} {z : Int} {y : Nat} (h : Near z.natAbs 1 y) {M : Int} {r : Nat} (hr : r ≤ INF) (hM : M.natAbs = val r) (hz : z ≤ M) : sv (wd (sumNeg s t z) (min y INF)) ≤ M := by
  have a := sg_sum' (s := s) (t := t) h
  have ex := near_exact 1 r (by decide)
  rw [Nat.mul_one] at ex
  by_cases h0 : 0 ≤ z
  · rw [a.1 h0]
    have hle : y ≤ r := near_mono h ex (by decide) (by decide) (by omega)
    have := val_le (show min y INF ≤ r by omega)
    omega
  · rw [a.2 (by omega)]
    by_cases hM0 : 0 ≤ M
    · omega
    · have hle : r ≤ y := near_mono ex h (by decide) (by decide) (by omega)
      have := val_le (show r ≤ min y INF by omega)
      omega

/-- A whole number as a float, exact. -/
theorem ofInt_whole (n : Int) (h : n.natAbs ≤ 9007199254740992) : ∃ b, floatOfInt .f64 n = b ∧ Fin64 b ∧ sv b = n * (S : Int) := by
  obtain ⟨r, hr⟩ := rep Q n.natAbs h
  rw [← S_eq] at hr
  have hl := INF_lit
  have hlt : r < 4895412794951729152 := by
    rw [← val_lt_iff, val_64, hr]; exact Nat.mul_lt_mul_of_pos_right (by omega) S_pos
  have e1 : ((0 : Int) + 1074).toNat = Q := by have := Q_eq; omega
  have e2 : ((-1074 : Int) - 0).toNat = 0 := by omega
  have hw : floatOfInt .f64 n = wd (decide (n < 0)) r := by
    show Ieee.double.write (.number (decide (n < 0)) n.natAbs 0) = _
    exact write_exact _ _ 0 r (by omega) (by rw [e1, e2, hr, S_eq]; simp)
  refine ⟨_, hw, fin_of (by omega), ?_⟩
  rw [sv_of (by omega), hr, sg_mul, sg_add_natAbs]
/-- Whole numbers and halves are floats. -/
theorem rung_whole (n : Int) (h : n.natAbs ≤ 9007199254740992) : ∃ r, r ≤ INF ∧ (n * (S : Int)).natAbs = val r := by
  obtain ⟨r, hr⟩ := rep Q n.natAbs h
  rw [← S_eq] at hr
  have hl := INF_lit
  have hlt : r < 4895412794951729152 := by
    rw [← val_lt_iff, val_64, hr]; exact Nat.mul_lt_mul_of_pos_right (by omega) S_pos
  exact ⟨r, by omega, by rw [Int.natAbs_mul, Int.natAbs_natCast, hr]⟩
/-- Half of one. -/
def H : Nat := 2 ^ (Q - 1)
theorem H_two : 2 * H = S := by
  have h : Q = Q - 1 + 1 := by have := Q_eq; omega
  unfold H; rw [S_eq]
  have e : (2 : Nat) ^ Q = 2 ^ (Q - 1 + 1) := by rw [← h]
  rw [e, Nat.pow_succ, Nat.mul_comm]
theorem H_eq : H = 2 ^ (Q - 1) := rfl
attribute [irreducible] H
theorem rung_half (n : Int) (h : n.natAbs ≤ 9007199254740992) : ∃ r, r ≤ INF ∧ (n * (H : Int)).natAbs = val r := by
  obtain ⟨r, hr⟩ := rep (Q - 1) n.natAbs h
  rw [← H_eq] at hr
  have hl := INF_lit
  have hS := S_pos
  have hH := H_two
  have hlt : r < 4895412794951729152 := by
    rw [← val_lt_iff, val_64, hr]
    have h1 : n.natAbs * H ≤ 9007199254740992 * H := Nat.mul_le_mul_right _ h
    have h2 : 18446744073709551616 * S = 36893488147419103232 * H := by rw [← hH]; omega
    omega
  exact ⟨r, by omega, by rw [Int.natAbs_mul, Int.natAbs_natCast, hr]⟩

/-- The product of a slope and a distance, brought to whole numbers. -/
theorem prod_bounds {p q d : Nat} (hp : p < 18446744073709551616) (hq : 0 < q) (hq1 : q < 18446744073709551616) (hd : d < 18446744073709551616) {m o : Nat} (ho : Near (d * S) 1 o) (hm : Near (val (nr p q) * val o) S m) :
    (∀ K : Nat, K ≤ 1125899906842624 → (K + 1) * q ≤ p * d → K * S ≤ val m) ∧ (∀ K : Nat, K ≤ 1125899906842624 → p * d ≤ K * q → val m ≤ (2 * K + 1) * H) := by
  have hS := S_pos
  have hH := H_two
  have hn := nr_near hp hq hq1
  by_cases hz : p = 0 ∨ d = 0
  · have hv : val (nr p q) * val o = 0 := by
      rcases hz with rfl | rfl
      · rw [nr_zero hq, val_zero, Nat.zero_mul]
      · have : o = 0 := near_unique ho (by rw [Nat.zero_mul]; exact near_zero 1) (by decide) (by decide) rfl
        rw [this, val_zero, Nat.mul_zero]
    rw [hv] at hm
    have hm0 : m = 0 := near_unique hm (near_zero S) hS hS rfl
    have hpd : p * d = 0 := by rcases hz with rfl | rfl; exact Nat.zero_mul _; exact Nat.mul_zero _
    rw [hm0, val_zero, hpd]
    refine ⟨fun K _ h => ?_, fun K _ _ => Nat.zero_le _⟩
    have : 1 * q ≤ (K + 1) * q := Nat.mul_le_mul_right _ (by omega)
    omega
  · have hp0 : 0 < p := by omega
    have hd0 : 0 < d := by omega
    have hr1 : 4503599627370496 ≤ nr p q := by
      have := (near_mono (near_exact 1 4314448443020935168 (by decide)) hn (by decide) hq (by
        have h1 := val_m65
        rw [Nat.mul_one, Nat.mul_one]
        have a1 : val 4314448443020935168 * q ≤ val 4314448443020935168 * 36893488147419103232 := Nat.mul_le_mul_left _ (by omega)
        have a2 : 1 * S ≤ p * S := Nat.mul_le_mul_right _ hp0
        omega))
      omega
    have ho1 : 4503599627370496 ≤ o := by
      have := (near_mono (near_exact 1 4607182418800017408 (by decide)) ho (by decide) (by decide) (by
        rw [Nat.mul_one, Nat.mul_one, Nat.mul_one, val_one]
        have a2 : 1 * S ≤ d * S := Nat.mul_le_mul_right _ hd0
        omega))
      omega
    obtain ⟨l1, l2⟩ := near_rel hn hr1
    obtain ⟨o1, o2⟩ := near_rel ho ho1
    constructor
    · intro K hK h
      obtain ⟨r, hr⟩ := rep Q K (by omega)
      rw [← S_eq] at hr
      rw [← hr]
      refine val_le (near_mono (near_exact S r hS) hm hS hS ?_)
      rw [hr]
      have := prod_low hq l2 o2 h hK
      rw [Nat.mul_assoc K]
      exact Nat.mul_le_mul_right _ this
    · intro K hK h
      obtain ⟨r, hr⟩ := rep (Q - 1) (2 * K + 1) (by omega)
      rw [← H_eq] at hr
      rw [← hr]
      refine val_le (near_mono hm (near_exact S r hS) hS hS (Nat.mul_le_mul_right _ ?_))
      rw [hr]
      have := prod_high hq l1 o1 h hK
      have e : (2 * K + 1) * (S * S) = 2 * ((2 * K + 1) * H * S) := by
        rw [← Nat.mul_assoc, ← hH]; ac_rfl
      omega
end Go.Proofs.Ytnccgpdniigekaa
/-
  Plain: the segment of keys is right, and predicts each of them within eps of its place.
-/
namespace Go.Proofs.Ytnccgpdniigekaa
open Go.RowKit
set_option linter.unusedVariables false
set_option linter.unusedSimpArgs false

section
variable {L : List Int} {eps : Int} {F : Fit}
/-- Its slope is one at most. -/
theorem LineIs.flat (h : LineIs L eps F) : F.low.1 ≤ F.low.2 := by
  rcases h.full.low.is with q | ⟨i, j, hij, hj, hpos, q⟩
  · rw [q]; decide
  · rw [h.keys] at hj q
    have hd : (j : Int) - i ≤ L.getD j 0 - L.getD i 0 := by
      have key : ∀ n, i + n < L.length → (n : Int) ≤ L.getD (i + n) 0 - L.getD i 0 := by
        intro n
        induction n with
        | zero => intro _; simp
        | succ n ih =>
          intro hn
          have := ih (by omega)
          have := getD_lt h.up (i := i + n) (j := i + (n + 1)) (by omega) hn
          omega
      have := key (j - i) (by omega)
      rw [show i + (j - i) = j by omega] at this
      omega
    have e0 := h.e0
    have hd2 : (j : Int) - i - 2 * (eps - 1) ≤ L.getD j 0 - L.getD i 0 := by omega
    obtain ⟨_, e, hp, _⟩ := lowest_low (n := (j : Int) - i - 2 * (eps - 1)) (d := L.getD j 0 - L.getD i 0) (by omega) (by omega)
    rw [← q] at e hp
    generalize L.getD j 0 - L.getD i 0 = d at *
    generalize (j : Int) - i - 2 * (eps - 1) = n at *
    have h2 : n * F.low.2 ≤ d * F.low.2 := Int.mul_le_mul_of_nonneg_right hd2 (Int.le_of_lt hp)
    have h3 : F.low.1 * d ≤ F.low.2 * d := by rw [e, Int.mul_comm F.low.2]; exact h2
    exact Int.le_of_mul_le_mul_right h3 (by omega)
end

theorem nr_flat {p q : Nat} (hp : p < 18446744073709551616) (hq : 0 < q) (hq1 : q < 18446744073709551616) (h : p ≤ q) : nr p q ≤ 4607182418800017408 := by
  refine near_mono (nr_near hp hq hq1) (near_exact 1 4607182418800017408 (by decide)) hq (by decide) ?_
  rw [Nat.mul_one, Nat.mul_one, val_one, Nat.mul_comm S]
  exact Nat.mul_le_mul_right _ h

/-- A float's whole part within bounds. -/
theorem clampI_within {b : Nat} {lo hi N M : Int} (hb : Num64 b) (hl : -9223372036854775808 ≤ N) (hN : N * (S : Int) ≤ sv b) (hM : sv b < (M + 1) * (S : Int)) (hM2 : M < 9223372036854775807) (h1 : lo ≤ hi) (h2 : N ≤ hi) (h3 : lo ≤ M) : N ≤ clampI b lo hi ∧ clampI b lo hi ≤ M := by
  have hS := S_pos
  have hS' : (0 : Int) < S := by omega
  unfold Num64 at hb
  unfold clampI
  have c2 : ¬ sv b < -(9223372036854775808 * (S : Int)) := by
    have : -9223372036854775808 * (S : Int) ≤ N * (S : Int) := Int.mul_le_mul_of_nonneg_right hl (by omega)
    omega
  rw [if_neg (by intro h; rcases h with h | h | h <;> omega)]
  have c3 : ¬ 9223372036854775808 * (S : Int) ≤ sv b := by
    have : (M + 1) * (S : Int) ≤ 9223372036854775808 * (S : Int) := Int.mul_le_mul_of_nonneg_right (by omega) (by omega)
    omega
  rw [if_neg c3]
  have a1 : N ≤ sv b / (S : Int) := by rw [Int.le_ediv_iff_mul_le hS']; exact hN
  have a2 : sv b / (S : Int) < M + 1 := by rw [Int.ediv_lt_iff_lt_mul hS']; exact hM
  omega

theorem wrap_small {n : Int} (h1 : -9223372036854775808 ≤ n) (h2 : n ≤ 9223372036854775807) : wrap64 n = n := by unfold wrap64; omega

/-- The segment of keys. -/
theorem of_right {L : List Int} {eps : Int} {F : Fit} (h : LineIs L eps F) (hU : U64s L) (hn : L.length ≤ 17592186044416) {fr : Int} (h1 : 0 ≤ fr) (h2 : fr ≤ 4294967296 - (L.length : Int)) :
    ∃ s : Sg, ofS L eps fr = (s, 0) ∧ Right s ∧ SgOk s ∧ s.first = L.getD 0 0 ∧ s.fr = fr ∧ s.up = fr + L.length ∧
      ∀ i, i < L.length → fr + i - eps ≤ guess s (L.getD i 0) ∧ guess s (L.getD i 0) ≤ fr + i + eps := by
  obtain ⟨hok, n0, n1⟩ := h.lnOk hU hn (d := 0) (.inl rfl)
  have hfit := h.fits hn
  have hflat := h.flat
  have hden := h.den
  have hlen := h.pos
  have he0 := h.e0; have he1 := h.e1
  have hqok := hok.q
  unfold u64ok at hqok
  simp only [] at hqok
  obtain ⟨p, hp⟩ : ∃ p : Nat, F.low.1 = (p : Int) := ⟨F.low.1.toNat, by omega⟩
  obtain ⟨q, hq⟩ : ∃ q : Nat, F.low.2 = (q : Int) := ⟨F.low.2.toNat, by omega⟩
  obtain ⟨bs, hbs⟩ : ∃ bs, bs = baseOf F.low L (eps - 1) L.length := ⟨_, rfl⟩
  have his := h.is
  rw [← hbs] at hfit his
  rw [hp] at hflat n0 n1
  rw [hq] at hflat hden hqok
  obtain ⟨f1, _, f3, f4⟩ := hfit
  -- the base is small
  have hbase : bs ≤ 4294967296 := by
    obtain ⟨⟨j, hj, hbj⟩, _⟩ := baseOf_max (s := F.low) (L := L) (e := eps - 1) hlen
    have hr := nAtF_range h.e0 (by rw [hp]; omega) h.den h.up h.bears hj
    have : baseAt F.low L (eps - 1) j = j - (eps - 1) - nAtF F.low L j := rfl
    rw [← hbs] at hbj
    omega
  obtain ⟨ib, i1, i2, i3⟩ := ofInt_whole (fr + bs) (by omega)
  have hw : wrap64 (fr + bs) = fr + bs := wrap_small (by omega) (by omega)
  have hofs : ofS L eps fr = (⟨L.getD 0 0, nr p q, ib, fr, fr + L.length⟩, 0) := by
    unfold ofS
    rw [his, hp, hq]
    simp only []
    rw [if_neg (by simp), if_neg (by omega), Int.toNat_natCast, Int.toNat_natCast, hw, i1]
    have : nearF p q = nr p q := if_neg (by omega)
    rw [this]
  have hsl := nr_flat (p := p) (q := q) (by omega) (by omega) (by omega) (by omega)
  have hR : Right ⟨L.getD 0 0, nr p q, ib, fr, fr + L.length⟩ := ⟨h1, by simp only []; omega, by simp only []; omega, by simp only []; omega, i2⟩
  have hib : ib < 18446744073709551616 := by
    rw [← i1]
    show Ieee.double.write (.number (decide (fr + bs < 0)) (fr + bs).natAbs 0) < _
    obtain ⟨q', w1, _⟩ := nearest_int (fr + bs)
    rw [w1]; exact wd_lt (Nat.min_le_right ..)
  have hS0 := hU.getD hlen
  refine ⟨_, hofs, hR, ⟨hS0, by simp only []; omega, hib, by unfold i64ok; simp only []; omega, by unfold i64ok; simp only []; omega⟩, rfl, rfl, rfl, ?_⟩
  intro i hi
  -- where the line is
  have hat : (i : Int) - (eps - 1) ≤ nAtF F.low L i + bs ∧ nAtF F.low L i + bs ≤ i + (eps - 1) := by
    have hr := nAtF_range h.e0 (by rw [hp]; omega) h.den h.up h.bears hi
    unfold fitsB at f1
    rw [if_neg (by
      have := h.g1; have := h.g2
      rintro (g | g | g | g)
      · omega
      · omega
      · exact h.ne g
      · exact g h.up)] at f1
    have := (of_decide_eq_true f1) i hi
    rw [nearAt_iff (by omega) (by omega) (by omega) (by omega)] at this
    exact this
  have hr := nAtF_range h.e0 (by rw [hp]; omega) h.den h.up h.bears hi
  have hki := hU.getD hi
  have hk0 := hU.getD hlen
  unfold u64ok at hki hk0
  have hmono := up_first h.up hi
  obtain ⟨d, hd⟩ : ∃ d : Nat, L.getD i 0 - L.getD 0 0 = (d : Int) := ⟨(L.getD i 0 - L.getD 0 0).toNat, by omega⟩
  have hfl : nAtF F.low L i = (((p * d) / q : Nat) : Int) := by
    unfold nAtF
    rw [hd, hp, hq, ← Int.natCast_mul, Int.natCast_ediv]
  obtain ⟨Fi, hFi⟩ : ∃ Fi, Fi = (p * d) / q := ⟨_, rfl⟩
  rw [hfl, ← hFi] at hat hr
  have hF1 : Fi * q ≤ p * d := by rw [hFi]; exact Nat.div_mul_le_self ..
  have hF2 : p * d < (Fi + 1) * q := by
    rw [hFi, Nat.add_mul, Nat.one_mul]
    have h3 := Nat.div_add_mod (p * d) q
    have h4 := Nat.mod_lt (p * d) (show 0 < q by omega)
    rw [Nat.mul_comm] at h3
    omega
  -- what is reckoned
  obtain ⟨m, o, m1, m2, m3, m4⟩ := mul_near (nr p q) d (by omega) (by omega)
  obtain ⟨b1, b2⟩ := prod_bounds (p := p) (q := q) (d := d) (by omega) (by omega) (by omega) (by omega) m2 m3
  have hl := INF_lit
  obtain ⟨y, a1, a2⟩ := add_fin (fin_small (r := m) (by omega)) i2
  have hfar : max (L.getD i 0) (L.getD 0 0) - L.getD 0 0 = (d : Int) := by omega
  have halong : alongF (nr p q) (max (L.getD i 0) (L.getD 0 0) - L.getD 0 0) ib = some (wd (sumNeg (ng m) (ng ib) (sv m + sv ib)) (min y INF)) := by
    rw [hfar]; unfold alongF; rw [m1]; exact a1
  obtain ⟨z, hz⟩ : ∃ z, z = wd (sumNeg (ng m) (ng ib) (sv m + sv ib)) (min y INF) := ⟨_, rfl⟩
  have hgF : gF ⟨L.getD 0 0, nr p q, ib, fr, fr + L.length⟩ (L.getD i 0) = z := by
    unfold gF
    simp only []
    rw [halong, hz]; rfl
  have hguess : guess ⟨L.getD 0 0, nr p q, ib, fr, fr + L.length⟩ (L.getD i 0) = clampI z fr (fr + L.length) := by
    unfold guess; rw [if_pos (chk_right.2 hR), hgF]
  have hzn : Num64 z := by rw [hz]; exact num_of (Nat.min_le_right ..)
  rw [hguess]
  have hS := S_pos
  have hH := H_two
  have svm : sv m = (val m : Int) := sv_small (by omega)
  refine clampI_within hzn (by omega) ?_ ?_ (by omega) (by omega) (by omega) (by omega)
  · -- from below
    obtain ⟨r, hr1, hr2⟩ := rung_whole (fr + i - eps) (by omega)
    rw [hz]
    refine round_ge a2 hr1 hr2 ?_
    rw [svm, i3]
    have hlow : (fr + (i : Int) - eps - (fr + bs)) * (S : Int) ≤ (val m : Int) := by
      by_cases hK : fr + (i : Int) - eps - (fr + bs) ≤ 0
      · have : (fr + (i : Int) - eps - (fr + bs)) * (S : Int) ≤ 0 := Int.mul_nonpos_of_nonpos_of_nonneg hK (by omega)
        omega
      · obtain ⟨K, hKK⟩ : ∃ K : Nat, fr + (i : Int) - eps - (fr + bs) = (K : Int) := ⟨(fr + (i : Int) - eps - (fr + bs)).toNat, by omega⟩
        have hle : (K + 1) * q ≤ Fi * q := Nat.mul_le_mul_right _ (by omega)
        have := b1 K (by omega) (Nat.le_trans hle hF1)
        rw [hKK, ← Int.natCast_mul]
        exact Int.ofNat_le.2 this
    have e : (fr + (i : Int) - eps - (fr + bs)) * (S : Int) = (fr + (i : Int) - eps) * (S : Int) - (fr + bs) * (S : Int) := Int.sub_mul ..
    omega
  · -- from above
    obtain ⟨K, hKK⟩ : ∃ K : Nat, (i : Int) + eps - bs = (K : Int) := ⟨((i : Int) + eps - bs).toNat, by omega⟩
    have hup := b2 K (by omega) (Nat.le_trans (Nat.le_of_lt hF2) (Nat.mul_le_mul_right _ (by omega)))
    obtain ⟨r, hr1, hr2⟩ := rung_half (2 * (fr + i + eps) + 1) (by omega)
    have hle : sv z ≤ (2 * (fr + i + eps) + 1) * (H : Int) := by
      rw [hz]
      refine round_le a2 hr1 hr2 ?_
      rw [svm, i3]
      have h5 := Int.ofNat_le.2 hup
      rw [Int.natCast_mul] at h5
      have h6 : (((2 * K + 1 : Nat)) : Int) = 2 * (i + eps - bs) + 1 := by omega
      rw [h6] at h5
      have h7 : (S : Int) = 2 * (H : Int) := by omega
      rw [h7]
      have e1 : (fr + bs) * (2 * (H : Int)) = (2 * (fr + bs)) * (H : Int) := by rw [← Int.mul_assoc, Int.mul_comm (fr + bs) 2]
      have e2 : (2 * ((i : Int) + eps - bs) + 1) * (H : Int) + (2 * (fr + bs)) * (H : Int) = (2 * (fr + i + eps) + 1) * (H : Int) := by
        rw [← Int.add_mul]; congr 1; omega
      omega
    have h7 : (S : Int) = 2 * (H : Int) := by omega
    have e3 : (fr + (i : Int) + eps + 1) * (S : Int) = (2 * (fr + i + eps) + 1) * (H : Int) + (H : Int) := by
      rw [h7, ← Int.mul_assoc]
      have : (fr + (i : Int) + eps + 1) * 2 = (2 * (fr + i + eps) + 1) + 1 := by omega
      rw [this, Int.add_mul, Int.one_mul]
    omega

/-- Of tells it, and how far off it is. -/
theorem of_bound {L : List Int} {eps : Int} (he : (lineOf L eps).2 = 0) (hU : U64s L) (hn : L.length ≤ 17592186044416) {fr : Int} (h1 : 0 ≤ fr) (h2 : fr ≤ 4294967296 - (L.length : Int)) :
    ∃ (s : Sg) (W : Int), ofS L eps fr = (s, 0) ∧ Right s ∧ SgOk s ∧ s.first = L.getD 0 0 ∧ s.fr = fr ∧ s.up = fr + L.length ∧ offI s L = (W, 0) ∧ 0 ≤ W ∧ W ≤ eps ∧ worst s L L.length = W ∧ L.Pairwise (· < ·) ∧ 0 < L.length := by
  obtain ⟨F, hF⟩ := lineOf_is he
  obtain ⟨s, s1, s2, s3, s4, s5, s6, s7⟩ := of_right hF hU hn h1 h2
  have hb := worst_bounds s2 L L.length (by rw [s5, s6]; omega)
  refine ⟨s, worst s L L.length, s1, s2, s3, s4, s5, s6, ?_, hb.1, ?_, rfl, hF.up, hF.pos⟩
  · unfold offI
    rw [if_neg (by rw [chk_right.2 s2]; simp), if_neg (by
      rw [s4, s5, s6]
      rintro (g | g | g)
      · omega
      · exact g rfl
      · exact g hF.up)]
  · refine worst_le (by have := hF.g1; omega) fun i hi => ?_
    have := s7 i hi
    rw [s5]
    omega
end Go.Proofs.Ytnccgpdniigekaa
